/-
  Lines of colours: the reference's At.
-/
import Derived.Test.YtefgofmjfaobpaaVabsMb
import Derived.Test.YtefgofmjfaobpaaVabsFy
namespace Go.Vabs.Ln
set_option linter.unusedVariables false
set_option linter.unusedSimpArgs false
set_option maxRecDepth 10000
attribute [local simp] wp_skip wp_ret wp_exit wp_reg wp_seq wp_cond wp_block thenQ_normal thenQ_ret thenQ_exit blockQ_normal blockQ_ret blockQ_exit wpCond_true wpCond_false wpOps_nil wpVal_some wpGuard_true wpGuard_false wpOps_guard wpOps_cons
  put_at put_no ev_c ev_slot posEq_h posEq_o posEq_i posEq_ho posEq_hi posEq_oh posEq_ih posEq_oi posEq_io sel_true sel_false
  okv_some step_mv step_call step_pick pickV_bool step_bin bin_add bin_sub bin_mul bin_eql bin_neq bin_lss bin_leq bin_gtr bin_geq bin_eqb bin_neb bin_eqs bin_nes step_un un_not un_neg step_len len_slice len_str len_const step_extract extractV nth step_convInt conv_int step_convStr step_slice step_idxAddr natOf_nat step_load step_index step_field step_fieldAddr step_build step_minmax
  step_alloc step_bslice bsliceV_some newV_some step_store step_append boolIs_b boolIs_t finQ_ret finQ_normal ressE_nil ressE_cons resE_tmp consO_some initE_nil initE_cons pos_0 pos_1 pos_2 pos_3 pos_4 pos_5 pos_6 pos_7 pos_8 plain_bool plain_int plain_str plain_ptr plain_slice plain_map plain_agg plain_func plain_nilFunc V.undef oneOf_one oneOf_two ble_self bin_agg eqV_parts eqV_int eqV_bool eqV_str eqParts_nil eqParts_cons eqC_true eqC_false eqO_some eqR_eql eqR_neq
attribute [local simp] wp_dreg wpDs_nil wpDs_cons wantedE_none wantedE_some wpDGuard_true wpDGuard_lim wpDGuard_false wpDLim_true wpDVal_free wpDVal_lim back_limited next_limited foot_convStr foot_load foot_store foot_alloc foot_box foot_bslice foot_append foot_call okAll_nil okAll_cons pastsOf nthP
  wpRounds_succ roundQ_normal roundQ_ret roundQ_exit cells_int cells_bool cells_str cells_agg cells_slice few_alloc lawOut_nil lawOut_one step_box newV alloc_dir backv back_back back_few next_back few_next resE_cell first_fewC grow_none grow_some cellsAt_zero cellsAt_succ ownAt_zero ownAt_succ loadC_some storeC_some firstC_some growC_some load_d convStr_d convStr_d0 store_d append_d2 append_d1 first_d2 first_d1 cut takeN nth splice over idOf okPair_dd okPair_dc okPair_cd okPair_cc anyIn_nil anyIn_same meets_nil meets_nil' meets_cons mem_nil mem_cons nbeq_dec blt_dec ble_dec fill repN firstNo lenOf fieldAddrV fieldV part natOf_zero natOf_one
open Go.Vabs.Ph Go.Vabs.Fl
open Classical in
set_option maxHeartbeats 4000000 in
theorem rat_sound {P : Program} {call : CallT} (hmix : P.follows .mixedOrders = true) (h : Sound P call) {g nb np nd nm : Nat} (hb : RBentF call nb) (hp : PxF (fun p => p.pre.v) call np) (hd : DivF call nd) (hm : MixF call nm) (hc : compF P g = some (rAt_c nb np nd nm)) :
    Sound P (withL call g (lawOf (oneRd shapeM 5 atS))) :=
  h.one hmix 22 hc shapeM 5 fun rest nil n cs os f hnil hlen hflat h1 => by
    unfold atS at h1
    split at h1
    · rename_i ext t
      split at h1
      · rename_i l hl
        split at h1
        · rename_i hcond
          obtain ⟨hl20, hgood, hfl⟩ := hcond
          cases h1
          have hcs := stopsOf_some _ _ hl
          subst hcs
          have hln : l.length = n := by rw [enc_len] at hlen; omega
          have hput : shapeM.put [.int .i64 ext, .int .i64 t] (slE 5 nil n) = [.int .i64 ext, slE 5 nil n, .int .i64 t] := rfl
          rw [hput, show memE nil (enc l) = few [objOf nil (enc l)] from rfl]
          have hlenS : ∀ st, lenV st .slice (slE 5 nil n) = some (.int .i64 (n : Int)) := fun st => rfl
          by_cases hl0 : l = []
          · subst hl0
            have hn0 : n = 0 := by simpa using hln.symm
            subst hn0
            have e : ∃ s1, enterF call 22 [.int .i64 ext, slE 5 nil 0, .int .i64 t] (few [objOf nil (enc [])]) (rAt_c nb np nd nm) = some ((atP ext [] t).v, s1) := by
              refine enter_ex ?_
              generalize slE 5 nil 0 = sv at hlenS ⊢
              simp (disch := omega) [hlenS, load_fewC, store_fewC]
              rw [show atP ext [] t = ⟨0, 0, 0, 0⟩ from if_pos rfl]
              rfl
            obtain ⟨s1, e⟩ := e
            exact ⟨_, s1, [], e, fun τ m => Left.flatA rfl⟩
          · have hn1 : 1 ≤ n := by
              have : l.length ≠ 0 := fun h => hl0 (List.length_eq_zero_iff.1 h)
              omega
            have hnf : nil = false := by
              cases nil with
              | false => rfl
              | true => have := (hnil rfl).1; omega
            subst hnf
            obtain ⟨a, ha⟩ : ∃ a, l[0]? = some a := ⟨_, List.getElem?_eq_getElem (by omega)⟩
            obtain ⟨b, hb'⟩ : ∃ b, l[n - 1]? = some b := ⟨_, List.getElem?_eq_getElem (by omega)⟩
            have hab : a.off ≤ b.off := by
              unfold firstLast at hfl
              rw [hln, ha, hb'] at hfl
              exact hfl
            have ina := (hgood a (List.mem_of_getElem? ha)).2
            have inb := (hgood b (List.mem_of_getElem? hb')).2
            have hbl : bentL ext l t = bentV ext a.off (b.off - a.off) (clip t) := by
              unfold bentL
              rw [hln, ha, hb']
            have hu := bentV_in (ext := ext) (t := t) ina (n := b.off - a.off) (by rw [show a.off + (b.off - a.off) = b.off from by omega]; exact inb) (by omega)
            rw [← hbl] at hu
            have hat : atP ext l t = colAt l (bentL ext l t) (lastI (bentL ext l t) l n) := by
              unfold atP
              rw [if_neg hl0, hln]
            have hbent : ∀ c1, call nb [.int .i64 ext, slE 5 false n, .int .i64 t] (few [some (.cells false (enc l)), c1]) = some (.int .i64 (bentL ext l t), few [some (.cells false (enc l)), c1]) := fun c1 => by
              rw [hbl]
              exact hb.full _ _ ext l a b t (flatAt_few (own := false) (cs := enc l) rfl (Nat.le_refl _) (by rw [enc_len]; omega) (by rw [List.drop_zero, List.take_of_length_le (by rw [enc_len]; omega)]) hflat) (by rw [hln]; rfl) rfl ha (by rw [hln]; exact hb') ina inb hab hl20
            generalize bentL ext l t = u at hu hat hbent
            unfold inB at hu
            rw [hat, show objOf false (enc l) = some (.cells false (enc l)) from rfl]
            have hidx : ∀ q, q < n → idxAddrV (.slice 5) (slE 5 false n) (some q) = some (.ptr (some (0, q * 5))) := fun q hq => by
              refine (idxAddr_slice (i := 0) (o := 0) (k := q) (n := n) hq).trans ?_
              rw [Nat.zero_add]
            have hcol : ∀ c1 q s, l[q]? = some s → loadV (few [some (.cells false (enc l)), c1]) true 4 (.ptr (some (0, q * 5 + 1))) = some ((pxD s).v) := fun c1 q s hs => by
              rw [load_col (os := [some (.cells false (enc l)), c1]) (own := false) rfl hs]
              exact congrArg some (good_px (hgood s (List.mem_of_getElem? hs))).1
            have hoff : ∀ c1 q s, l[q]? = some s → loadV (few [some (.cells false (enc l)), c1]) false 1 (.ptr (some (0, q * 5))) = some (.int .i64 s.off) := fun c1 q s hs => load_off (os := [some (.cells false (enc l)), c1]) (own := false) rfl hs
            have e : ∃ s1, enterF call 22 [.int .i64 ext, slE 5 false n, .int .i64 t] (few [some (.cells false (enc l))]) (rAt_c nb np nd nm) = some ((colAt l u (lastI u l n)).v, s1) := by
              generalize slE 5 false n = sv at hlenS hidx hbent ⊢
              generalize enc l = eL at hbent hcol hoff
              refine enter_ex ?_
              simp (disch := omega) [hlenS, hbent, deqn_f, deq_f]
              refine wp_loop (fun k s st => ∃ (r : Nat), r + k = n ∧ st = few [some (.cells false eL), some (.cells true [.int .i64 0, .int .i64 0, .int .i64 0, .int .i64 0])] ∧
                s (.o .h) = sv ∧ s (.i (.i .h)) = .ptr (some (1, 0)) ∧ s (.o (.o (.o .h))) = .int .i64 u ∧ s (.i (.o (.o .h))) = .int .i64 (lastI u l r) ∧ s (.o (.i (.o .h))) = .int .i64 (r : Int)) n ?_ (by omega) ?_
              · refine ⟨0, by omega, rfl, ?_, ?_, ?_, ?_, ?_⟩ <;> simp [lastI]
              · rintro k s st ⟨r, hr, rfl, g1, g2, g3, g4, g5⟩
                cases k with
                | zero =>
                  have hrn : r = n := by omega
                  subst hrn
                  have hli := lastI_in (u := u) (l := l) r (by omega)
                  by_cases hneg : lastI u l r < 0
                  · have hc0 := fun c1 => hcol c1 0 a ha
                    have hp0 : ∀ st, call np [(pxD a).v] st = some ((pxD a).pre.v, st) := fun st => hp (pxD a) st (good_px (hgood a (List.mem_of_getElem? ha))).2
                    have hres : colAt l u (lastI u l r) = (pxD a).pre := by
                      unfold colAt
                      rw [if_pos hneg, ha]
                    rw [hres]
                    generalize lastI u l r = i at *
                    generalize (pxD a).pre = p at *
                    have hidx0 := hidx 0 (by omega)
                    simp only [Nat.zero_mul, Nat.zero_add] at hc0 hidx0
                    simp (disch := omega) [g1, g2, g3, g4, g5, hlenS, dlt_t, dlt_f, dltn_f, dltn_t, hidx0, hc0, hp0, store_fewC, load_fewC, px_cells, px_plain]
                    try rfl
                  · obtain ⟨q, hq⟩ : ∃ q : Nat, lastI u l r = (q : Int) := ⟨(lastI u l r).toNat, by omega⟩
                    have hqr : q < r := by omega
                    obtain ⟨x, hx⟩ : ∃ x, l[q]? = some x := ⟨_, List.getElem?_eq_getElem (by omega)⟩
                    have hxo := lastI_off hq hx
                    have hgx := hgood x (List.mem_of_getElem? hx)
                    have hcx := fun c1 => hcol c1 q x hx
                    have hsx := fun c1 => hoff c1 q x hx
                    have hix := hidx q hqr
                    have hpx : ∀ st, call np [(pxD x).v] st = some ((pxD x).pre.v, st) := fun st => hp (pxD x) st (good_px hgx).2
                    have inx := hgx.2
                    unfold inB at inx
                    by_cases hlst : q = r - 1
                    · have hres : colAt l u (lastI u l r) = (pxD x).pre := by
                        unfold colAt
                        rw [if_neg hneg, hq, Int.toNat_natCast, hx, List.getElem?_eq_none (by omega)]
                      rw [hres]
                      rw [hq] at g4
                      generalize (pxD x).pre = p at *
                      have hqr1 : (q : Int) = (r : Int) - 1 := by omega
                      generalize hq5 : q * 5 = q5 at *
                      simp (disch := omega) [g1, g2, g3, g4, g5, hlenS, dlt_t, dlt_f, dltn_f, dltn_t, deq_t, deq_f, deqn_t, deqn_f, natOf_nat, wrap_i, hix, hcx, hpx, store_fewC, load_fewC, px_cells, px_plain]
                      try rfl
                    · obtain ⟨y, hy⟩ : ∃ y, l[q + 1]? = some y := ⟨_, List.getElem?_eq_getElem (by omega)⟩
                      have hyo := lastI_next (u := u) (l := l) (k := r) (j := q + 1) (by omega) (by omega) hy
                      have hgy := hgood y (List.mem_of_getElem? hy)
                      have hcy := fun c1 => hcol c1 (q + 1) y hy
                      have hsy := fun c1 => hoff c1 (q + 1) y hy
                      have hiy := hidx (q + 1) (by omega)
                      have hpy : ∀ st, call np [(pxD y).v] st = some ((pxD y).pre.v, st) := fun st => hp (pxD y) st (good_px hgy).2
                      have iny := hgy.2
                      unfold inB at iny
                      have hdv : ∀ st, call nd [.int .i64 (u - x.off), .int .i64 (y.off - x.off)] st = some (.int .i64 (divI (u - x.off) (y.off - x.off)), st) := fun st => hd _ _ st (by omega) (by omega)
                      have hmx : ∀ st, call nm [(pxD x).pre.v, (pxD y).pre.v, .int .i64 (divI (u - x.off) (y.off - x.off))] st = some ((mixP (pxD x).pre (pxD y).pre (unit16 (divI (u - x.off) (y.off - x.off)))).v, st) := fun st => hm _ _ _ st (pre_ok (good_px hgx).2) (pre_ok (good_px hgy).2)
                      have hres : colAt l u (lastI u l r) = mixP (pxD x).pre (pxD y).pre (unit16 (divI (u - x.off) (y.off - x.off))) := by
                        unfold colAt
                        rw [if_neg hneg, hq, Int.toNat_natCast, hx, hy]
                      rw [hres]
                      rw [hq] at g4
                      generalize mixP (pxD x).pre (pxD y).pre (unit16 (divI (u - x.off) (y.off - x.off))) = p at *
                      generalize divI (u - x.off) (y.off - x.off) = dv at *
                      obtain ⟨q1, hq1⟩ : ∃ q1, q1 = q + 1 := ⟨_, rfl⟩
                      rw [← hq1] at hcy hsy hiy
                      have wq : wrapV .i64 ((q : Int) + 1) = (q1 : Int) := by rw [wrap_i (by omega) (by omega)]; omega
                      generalize hq5 : q * 5 = q5 at *
                      generalize hq15 : q1 * 5 = q15 at *
                      simp (disch := omega) [g1, g2, g3, g4, g5, hlenS, dlt_t, dlt_f, dltn_f, dltn_t, deq_t, deq_f, deqn_t, deqn_f, dlen_t, dlen_f, natOf_nat, wrap_i, wq, hix, hiy, hsx, hsy, hcx, hcy, hpx, hpy, hdv, hmx, store_fewC, load_fewC, px_cells, px_plain]
                      try rfl
                | succ k =>
                  have hlt : r < n := by omega
                  obtain ⟨x, hx⟩ : ∃ x, l[r]? = some x := ⟨_, List.getElem?_eq_getElem (by omega)⟩
                  have hsx := fun c1 => hoff c1 r x hx
                  have hix := hidx r hlt
                  have hls : lastI u l (r + 1) = if x.off ≤ u then (r : Int) else lastI u l r := by
                    show (match l[r]? with | some s => if s.off ≤ u then (r : Int) else lastI u l r | none => lastI u l r) = _
                    rw [hx]
                  by_cases hxu : x.off ≤ u
                  · rw [if_pos hxu] at hls
                    simp (disch := omega) [g1, g2, g3, g4, g5, hlenS, dlt_t, dlt_f, dle_t, dle_f, dltn_f, dltn_t, natOf_nat, wrap_i, hix, hsx]
                    exact ⟨k, by omega, r + 1, by omega, hls.symm, by omega⟩
                  · rw [if_neg hxu] at hls
                    simp (disch := omega) [g1, g2, g3, g4, g5, hlenS, dlt_t, dlt_f, dle_t, dle_f, dltn_f, dltn_t, natOf_nat, wrap_i, hix, hsx]
                    exact ⟨k, by omega, r + 1, by omega, hls.symm, by omega⟩
            obtain ⟨s1, e⟩ := e
            exact ⟨_, s1, [], e, fun τ m => Left.flatA rfl⟩
        · cases h1
      · cases h1
    · cases h1
structure RAtF (call : CallT) (g : Nat) : Prop where
  full : ∀ (st : St) (s : V) (ext : Int) (l : List Stop) (t : Int), flatAt st 5 s = some (enc l) → lenOf s = some l.length → isSl s = true → l.length < 20 → (∀ s ∈ l, goodS s) → firstLast l → call g [.int .i64 ext, s, .int .i64 t] st = some ((atP ext l t).v, st)
theorem rat_fact {call : CallT} {g : Nat} : RAtF (withL call g (lawOf (oneRd shapeM 5 atS))) g := by
  constructor
  intro st s ext l t h1 h2 h4 h5 h6 h7
  rw [one_call (pickM h4) h1 h2]
  have e : atS [.int .i64 ext, .int .i64 t] (isNil s) l.length (enc l) = some ([], fun _ => (atP ext l t).v) := by
    unfold atS
    dsimp only
    rw [stopsOf_enc]
    dsimp only
    rw [if_pos ⟨h5, h6, h7⟩]
  rw [e]
  rfl
theorem RAtF.other {call : CallT} {n g : Nat} {l : List V → St → Option (V × St)} (h : RAtF call n) (hne : n ≠ g) : RAtF (withL call g l) n :=
  ⟨fun st s ext l t h1 h2 h3 h4 h5 h6 => by rw [withL_other hne]; exact h.full st s ext l t h1 h2 h3 h4 h5 h6⟩
theorem RAtF.withF {call : CallT} {n g lf : Nat} {fn : AFunc} (h : RAtF call n) (hne : n ≠ g) : RAtF (Vabs.withF call g lf fn) n :=
  ⟨fun st s ext l t h1 h2 h3 h4 h5 h6 => by rw [withF_other hne]; exact h.full st s ext l t h1 h2 h3 h4 h5 h6⟩

end Go.Vabs.Ln
