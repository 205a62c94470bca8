/-
  Lines of colours: the reference's Sorted.
-/
import Derived.Test.YtefgofmjfaobpaaVabsMc
import Derived.Test.YtefgofmjfaobpaaVabsLs
import Derived.Test.YtefgofmjfaobpaaVabsFy
namespace Go.Vabs.Ln
set_option linter.unusedVariables false
set_option linter.unusedSimpArgs false
set_option maxRecDepth 10000
attribute [local simp] wp_skip wp_ret wp_exit wp_reg wp_seq wp_cond wp_block thenQ_normal thenQ_ret thenQ_exit blockQ_normal blockQ_ret blockQ_exit wpCond_true wpCond_false wpOps_nil wpVal_some wpGuard_true wpGuard_false wpOps_guard wpOps_cons
  put_at put_no ev_c ev_slot posEq_h posEq_o posEq_i posEq_ho posEq_hi posEq_oh posEq_ih posEq_oi posEq_io sel_true sel_false
  okv_some step_mv step_call step_pick pickV_bool step_bin bin_add bin_sub bin_mul bin_eql bin_neq bin_lss bin_leq bin_gtr bin_geq bin_eqb bin_neb bin_eqs bin_nes step_un un_not un_neg step_len len_slice len_str len_const step_extract extractV nth step_convInt conv_int step_convStr step_slice step_idxAddr natOf_nat step_load step_index step_field step_fieldAddr step_build step_minmax
  step_alloc step_bslice bsliceV_some newV_some step_store step_append boolIs_b boolIs_t finQ_ret finQ_normal ressE_nil ressE_cons resE_tmp consO_some initE_nil initE_cons pos_0 pos_1 pos_2 pos_3 pos_4 pos_5 pos_6 pos_7 pos_8 plain_bool plain_int plain_str plain_ptr plain_slice plain_map plain_agg plain_func plain_nilFunc V.undef oneOf_one oneOf_two ble_self bin_agg eqV_parts eqV_int eqV_bool eqV_str eqParts_nil eqParts_cons eqC_true eqC_false eqO_some eqR_eql eqR_neq
attribute [local simp] wp_dreg wpDs_nil wpDs_cons wantedE_none wantedE_some wpDGuard_true wpDGuard_lim wpDGuard_false wpDLim_true wpDVal_free wpDVal_lim back_limited next_limited foot_convStr foot_load foot_store foot_alloc foot_box foot_bslice foot_append foot_call okAll_nil okAll_cons pastsOf nthP
  wpRounds_succ roundQ_normal roundQ_ret roundQ_exit cells_int cells_bool cells_str cells_agg cells_slice few_alloc lawOut_nil lawOut_one step_box newV alloc_dir backv back_back back_few next_back few_next resE_cell first_fewC grow_none grow_some cellsAt_zero cellsAt_succ ownAt_zero ownAt_succ loadC_some storeC_some firstC_some growC_some load_d convStr_d convStr_d0 store_d append_d2 append_d1 first_d2 first_d1 cut takeN nth splice over idOf okPair_dd okPair_dc okPair_cd okPair_cc anyIn_nil anyIn_same meets_nil meets_nil' meets_cons mem_nil mem_cons nbeq_dec blt_dec ble_dec fill repN firstNo lenOf fieldAddrV fieldV part natOf_zero natOf_one
open Go.Vabs.Ph Go.Vabs.Fl
theorem append_zero {st : St} {e bytes : Nat} {a : Option (Nat × Nat)} {e' n c : Nat} {f : Bool} {new : List V} : appendV st e bytes (.slice a e' n c f) (some 0) (some new) = some (.slice a e' n c f, st) := rfl
theorem slice_hi0 : sliceOp (.slice 5) (.slice none 0 0 0 true) none (some (.int .i64 0)) none = some (.slice none 5 0 0 true) := rfl
theorem slice_lo0 : sliceOp (.slice 5) (.slice none 0 0 0 true) (some (.int .i64 0)) none none = some (.slice none 5 0 0 true) := rfl
theorem first_nil {st : St} {e e' n c : Nat} {f : Bool} : firstN st e 0 (.slice none e' n c f) = some [] := rfl
theorem append_d3 {os : List (Option AObj)} {i o e bytes m e1 n1 c1 : Nat} {f1 : Bool} {ps : List Past} {new : List V} : appendV (limited (.dir [i] [i]) ps (few os)) e bytes (.slice (some (i, o)) e1 n1 c1 f1) (some m) (some new) = backv (limited (.dir [i] [i]) ps (few os)) (appendV (few os) e bytes (.slice (some (i, o)) e1 n1 c1 f1) (some m) (some new)) :=
  append_dir (sv := .slice (some (i, o)) e1 n1 c1 f1) (x := .slice none 0 0 0 true)
/-- Stops joined to stops: what is there then. -/
theorem joined {os : List (Option AObj)} {j n m : Nat} {b : Bool} {cs new : List V} (hj : os[j]? = some (some (.cells true cs))) (hc : cs.length = n * 5) (hm : new.length = m * 5) (hb : b = true → n = 0) (hs : n + m ≤ 100) :
    ∃ j' b' os', appendV (few os) 5 40 (.slice (some (j, 0)) 5 n n b) (some m) (some new) = some (.slice (some (j', 0)) 5 (n + m) (n + m) b', few os') ∧ os'[j']? = some (some (.cells true (cs ++ new))) ∧ (b' = true → n + m = 0) ∧ (∀ i, i < os.length → i ≠ j → os'[i]? = os[i]?) ∧ os.length ≤ os'.length ∧ j ≤ j' := by
  have hjl : j < os.length := (List.getElem?_eq_some_iff.1 hj).1
  have hjj : (os[j]?).join = some (.cells true cs) := by rw [hj]; rfl
  cases m with
  | zero =>
    have hn : new = [] := List.length_eq_zero_iff.1 (by omega)
    subst hn
    exact ⟨j, b, os, append_zero, by rw [List.append_nil]; exact hj, hb, fun i _ _ => rfl, Nat.le_refl _, Nat.le_refl _⟩
  | succ m =>
    cases b with
    | true =>
      have hn := hb rfl
      subst hn
      have hcs : cs = [] := List.length_eq_zero_iff.1 (by omega)
      subst hcs
      refine ⟨os.length, false, os ++ [some (.cells true new)], ?_, ?_, (fun h => by cases h), fun i hi _ => List.getElem?_append_left hi, by simp, by omega⟩
      · rw [Nat.zero_add]
        exact append_newE hjj (by omega) hm (by omega) (by omega)
      · rw [List.getElem?_append_right (Nat.le_refl _), Nat.sub_self]
        rfl
    | false =>
      refine ⟨os.length, false, os.set j none ++ [some (.cells true (cs ++ new))], ?_, ?_, (fun h => by cases h), fun i hi hne => ?_, by simp, by omega⟩
      · rw [grow_some, ownAt_eq, hjj]
        show growC os 5 40 j n m new (some cs) = _
        rw [growC_some, if_pos ⟨by omega, hm, hc.symm⟩]
      · rw [List.getElem?_append_right (by rw [List.length_set]; exact Nat.le_refl _), List.length_set, Nat.sub_self]
        rfl
      · rw [List.getElem?_append_left (by rw [List.length_set]; exact hi), List.getElem?_set, if_neg (fun h => hne h.symm)]
theorem enc_app : ∀ (l m : List Stop), enc (l ++ m) = enc l ++ enc m
  | [], m => rfl
  | s :: l, m => by
    show _ :: _ :: _ :: _ :: _ :: enc (l ++ m) = _
    rw [enc_app l m]
    rfl
theorem enc_take : ∀ (l : List Stop) (k : Nat), (enc l).take (k * 5) = enc (l.take k)
  | [], k => by simp [enc]
  | s :: l, 0 => by simp [enc]
  | s :: l, k + 1 => by
    rw [five]
    show _ :: _ :: _ :: _ :: _ :: (enc l).take (k * 5) = _
    rw [enc_take l k]
    rfl
theorem enc_drop : ∀ (l : List Stop) (k : Nat), (enc l).drop (k * 5) = enc (l.drop k)
  | [], k => by simp [enc]
  | s :: l, 0 => by simp [enc]
  | s :: l, k + 1 => by
    rw [five]
    show (enc l).drop (k * 5) = _
    rw [enc_drop l k]
    rfl
theorem ins_enc {x : Stop} {O : List Stop} : enc (O.take (kOf less x O O.length)) ++ encS x ++ enc (O.drop (kOf less x O O.length)) = enc (ins less x O) := by
  unfold ins
  rw [enc_app, List.append_assoc]
  rfl
noncomputable def sortedS : List V → Bool → Nat → List V → Option Ans
  | [], _, n, cs => match stopsOf cs with
    | some l => if n < 20 then some (madeA (srt l)) else none
    | none => none
  | _, _, _, _ => none
set_option maxHeartbeats 8000000 in
theorem sorted_sound {P : Program} {call : CallT} (hmix : P.follows .mixedOrders = true) (h : Sound P call) {g nclip : Nat} (hclip : ClipF call nclip) (hc : compF P g = some (Sorted_c nclip)) :
    Sound P (withL call g (lawOf (oneRd shapeS 5 sortedS))) :=
  h.one hmix 22 hc shapeS 5 fun rest nil n cs os f hnil hlen hflat h1 => by
    unfold sortedS at h1
    split at h1
    · split at h1
      · rename_i l hl
        split at h1
        · rename_i hn20
          have hcs := stopsOf_some _ _ hl
          subst hcs
          have hln : l.length = n := by rw [enc_len] at hlen; omega
          have hok := flat_enc hflat
          simp only [Option.some.injEq] at h1
          rw [show shapeS.put [] (slE 5 nil n) = [slE 5 nil n] from rfl, show memE nil (enc l) = few [objOf nil (enc l)] from rfl]
          have hlenS : ∀ st, lenV st .slice (slE 5 nil n) = some (.int .i64 (n : Int)) := fun st => rfl
          have hidx : ∀ q, q < n → idxAddrV (.slice 5) (slE 5 nil n) (some q) = some (.ptr (some (0, q * 5))) := fun q hq => by
            cases nil with
            | true => have := (hnil rfl).1; omega
            | false =>
              refine (idxAddr_slice (i := 0) (o := 0) (k := q) (n := n) hq).trans ?_
              rw [Nat.zero_add]
          have hld : ∀ (os : List (Option AObj)) q m, os[0]? = some (objOf nil (enc l)) → l[q]? = some m → loadV (few os) true 5 (.ptr (some (0, q * 5))) = some (.agg (encS m)) := fun os q m ho hq => by
            cases nil with
            | true =>
              have hz := (hnil rfl).1
              have := (List.getElem?_eq_some_iff.1 hq).1
              omega
            | false => exact load_stop (os := os) (own := false) (by rw [ho]; rfl) hq
          have hins : ∀ r x, l[r]? = some x → insAll less ((l.map clipS).take (r + 1)) = ins less (clipS x) (insAll less ((l.map clipS).take r)) := fun r x hx => by
            rw [List.take_add_one, List.getElem?_map, hx]
            exact insAll_snoc
          have hsrt : insAll less ((l.map clipS).take n) = srt l := by
            rw [List.take_of_length_le (by rw [List.length_map]; omega), ← sinks_insAll, List.length_map]
            rfl
          generalize hsv : slE 5 nil n = sv at hlenS hidx ⊢
          have key : ∃ (out : V) (st1 : St), enterF call 22 [sv] (few [objOf nil (enc l)]) (Sorted_c nclip) = some (out, st1) ∧ ∃ os1, st1 = few os1 ∧
              ((n = 0 ∧ out = .slice none 0 0 0 true) ∨ (1 ≤ n ∧ ∃ i, 1 ≤ i ∧ os1[i]? = some (some (.cells true (enc (srt l)))) ∧ out = .slice (some (i, 0)) 5 n n false)) := by
            refine enter_wp ?_
            simp (disch := omega) []
            refine wp_loop (fun k s st => ∃ (r : Nat) (os : List (Option AObj)) (out : V), r + k = n ∧ st = few os ∧ os[0]? = some (objOf nil (enc l)) ∧ ((r = 0 ∧ out = .slice none 0 0 0 true) ∨ (1 ≤ r ∧ ∃ i, 1 ≤ i ∧ os[i]? = some (some (.cells true (enc (insAll less ((l.map clipS).take r))))) ∧ out = .slice (some (i, 0)) 5 r r false)) ∧
              s .h = sv ∧ s (.o (.o .h)) = out ∧ s (.i (.o .h)) = .int .i64 (r : Int)) n ?_ (by omega) ?_
            · refine ⟨0, _, _, by omega, rfl, rfl, .inl ⟨rfl, rfl⟩, ?_, ?_, ?_⟩ <;> simp
            · rintro k s st ⟨r, os, out, hr, rfl, ho, hout, g1, g2, g3⟩
              have hos : 1 ≤ os.length := by
                have := (List.getElem?_eq_some_iff.1 ho).1
                omega
              cases k with
              | zero =>
                have hrn : r = n := by omega
                subst hrn
                rw [hsrt] at hout
                have hplain : out.plain = true := by
                  rcases hout with ⟨h0, h2⟩ | ⟨h0, i, h2, h3, h4⟩
                  · rw [h2]; rfl
                  · rw [h4]; rfl
                simp (disch := omega) [g1, g2, g3, hlenS, dlt_f, dltn_f, hplain]
                exact ⟨os, rfl, hout⟩
              | succ k =>
                have hlt : r < n := by omega
                obtain ⟨x, hx⟩ : ∃ x, l[r]? = some x := ⟨_, List.getElem?_eq_getElem (by omega)⟩
                have lx := hld os r x ho hx
                have ix := hidx r hlt
                have hcl := fun st => hclip x.off st
                have ns1 : ∀ v1 v2 v3 v4 v5, storeV (few (os ++ [some (.cells true [.int .i64 0, .int .i64 0, .int .i64 0, .int .i64 0, .int .i64 0])])) 5 (.ptr (some (os.length, 0))) (some [v1, v2, v3, v4, v5]) = some (V.undef, few (os ++ [some (.cells true [v1, v2, v3, v4, v5])])) := fun v1 v2 v3 v4 v5 => store_new (t := []) rfl rfl
                have nl1 : ∀ v1 v2 v3 v4 v5, loadV (few (os ++ [some (.cells true [v1, v2, v3, v4, v5])])) false 1 (.ptr (some (os.length, 0))) = some v1 := fun v1 v2 v3 v4 v5 => load_new (t := [])
                have ns2 : ∀ v1 v2 v3 v4 v5 w, storeV (few (os ++ [some (.cells true [v1, v2, v3, v4, v5])])) 1 (.ptr (some (os.length, 0))) (some [w]) = some (V.undef, few (os ++ [some (.cells true [w, v2, v3, v4, v5])])) := fun v1 v2 v3 v4 v5 w => by
                  rw [store_fewC, ownAt_eq, List.getElem?_append_right (Nat.le_refl _), Nat.sub_self]
                  show some (V.undef, few ((os ++ [some (AObj.cells true [v1, v2, v3, v4, v5])]).set os.length (some (AObj.cells true [w, v2, v3, v4, v5])))) = _
                  rw [set_app]
                rcases hout with ⟨h0, h2⟩ | ⟨h0, i, h2, h3, h4⟩
                · subst h2
                  simp (disch := omega) [g1, g2, g3, hlenS, dlt_t, dltn_t, hlt, natOf_nat, ix, lx, encS, ns1, nl1, ns2, hcl]
                  subst h0
                  refine wp_loop (fun k s st => k = 0 ∧ st = few (os ++ [some (.cells true [.int .i64 (clip x.off), x.a, x.b, x.c, x.d])]) ∧ s .h = sv ∧ s (.o (.o .h)) = .slice none 0 0 0 true ∧ s (.i (.o .h)) = .int .i64 0 ∧ s (.o (.i .h)) = .ptr (some (os.length, 0)) ∧ s (.i (.i .h)) = .int .i64 0) 0 ?_ (by omega) ?_
                  · refine ⟨rfl, rfl, ?_, ?_, ?_, ?_, ?_⟩ <;> simp [g1, g2, g3]
                  · clear g1 g2 g3
                    rintro k' s st ⟨rfl, rfl, g1, g2, g3, g4, g5⟩
                    obtain ⟨j', b', os', e1, e2, e3, e4, e5, e6⟩ := joined (os := os ++ [some (.cells true [.int .i64 (clip x.off), x.a, x.b, x.c, x.d]), some (.cells true []), some (.cells true [.int .i64 (clip x.off), x.a, x.b, x.c, x.d])]) (j := os.length + 1) (n := 0) (m := 1) (b := true) (cs := []) (new := [.int .i64 (clip x.off), x.a, x.b, x.c, x.d])
                      (by rw [List.getElem?_append_right (by omega), show os.length + 1 - os.length = 1 from by omega]; rfl) rfl rfl (fun _ => rfl) (by omega)
                    have hbf : b' = false := by
                      cases b' with
                      | false => rfl
                      | true => have := e3 rfl; omega
                    subst hbf
                    have fs : firstN (few (os ++ [some (.cells true [.int .i64 (clip x.off), x.a, x.b, x.c, x.d]), some (.cells true []), some (.cells true [.int .i64 (clip x.off), x.a, x.b, x.c, x.d])])) 5 1 (.slice (some (os.length + 2, 0)) 5 1 1 true) = some [.int .i64 (clip x.off), x.a, x.b, x.c, x.d] := by
                      rw [first_fewC, cellsAt_eq, List.getElem?_append_right (by omega), show os.length + 2 - os.length = 2 from by omega]
                      rfl
                    have nl5 : ∀ tl, loadV (few (os ++ some (.cells true [.int .i64 (clip x.off), x.a, x.b, x.c, x.d]) :: tl)) true 5 (.ptr (some (os.length, 0))) = some (.agg [.int .i64 (clip x.off), x.a, x.b, x.c, x.d]) := fun tl => load_new
                    simp (disch := omega) [g1, g2, g3, g4, g5, dlt_f, dltn_f, dltn_t, append_d3, append_zero, slice_hi0, slice_lo0, first_nil, nl5, fs, e1, anyIn_cons, dlen_f, dlen_t, deqn_f, deqn_t]
                    exact ⟨k, by omega, 1, by omega, os', rfl, by rw [e4 0 (by simp) (by omega), List.getElem?_append_left (by omega)]; exact ho, _, .inr ⟨by omega, j', by omega, by
                      rw [e2, hins 0 x hx]
                      rfl, rfl⟩, rfl, by rw [wrap_i (by omega) (by omega)]; rfl⟩
                · subst h4
                  have hOl : (insAll less ((l.map clipS).take r)).length = r := by rw [insAll_len, List.length_take, List.length_map]; omega
                  have hi2 : i < os.length := (List.getElem?_eq_some_iff.1 h3).1
                  generalize hO : insAll less ((l.map clipS).take r) = O at h3 hOl
                  have io : ∀ q, q < r → idxAddrV (.slice 5) (.slice (some (i, 0)) 5 r r false) (some q) = some (.ptr (some (i, q * 5))) := fun q hq => by
                    refine (idxAddr_slice (i := i) (o := 0) (k := q) (n := r) hq).trans ?_
                    rw [Nat.zero_add]
                  have lo : ∀ tl q a, O[q]? = some a → loadV (few (os ++ tl)) false 1 (.ptr (some (i, q * 5))) = some (.int .i64 a.off) := fun tl q a ha => load_off (by rw [List.getElem?_append_left hi2, h3]; rfl) ha
                  have nl2 : ∀ tl, loadV (few (os ++ some (.cells true [.int .i64 (clip x.off), x.a, x.b, x.c, x.d]) :: tl)) false 1 (.ptr (some (os.length, 0))) = some (.int .i64 (clip x.off)) := fun tl => load_new
                  simp (disch := omega) [g1, g2, g3, hlenS, dlt_t, dltn_t, hlt, natOf_nat, ix, lx, encS, ns1, nl1, ns2, hcl]
                  refine wp_mono (wp_loop (Q := fun x' s st => x' = .exit 2 ∧ st = few (os ++ [some (.cells true [.int .i64 (clip x.off), x.a, x.b, x.c, x.d])]) ∧ s .h = sv ∧ s (.o (.o .h)) = .slice (some (i, 0)) 5 r r false ∧ s (.i (.o .h)) = .int .i64 (r : Int) ∧ s (.o (.i .h)) = .ptr (some (os.length, 0)) ∧ s (.i (.i .h)) = .int .i64 ((kOf less (clipS x) O r : Nat) : Int))
                    (fun kk s st => kk ≤ r ∧ kOf less (clipS x) O r = kOf less (clipS x) O kk ∧ st = few (os ++ [some (.cells true [.int .i64 (clip x.off), x.a, x.b, x.c, x.d])]) ∧ s .h = sv ∧ s (.o (.o .h)) = .slice (some (i, 0)) 5 r r false ∧ s (.i (.o .h)) = .int .i64 (r : Int) ∧ s (.o (.i .h)) = .ptr (some (os.length, 0)) ∧ s (.i (.i .h)) = .int .i64 ((kk : Nat) : Int)) r ?_ (by omega) ?_) ?_
                  · refine ⟨Nat.le_refl _, rfl, rfl, ?_, ?_, ?_, ?_, ?_⟩ <;> simp [g1, g2, g3]
                  · clear g1 g2 g3
                    rintro kk s st ⟨hkr, hkk, rfl, g1, g2, g3, g4, g5⟩
                    cases kk with
                    | zero =>
                      have hk0 : kOf less (clipS x) O r = 0 := hkk
                      rw [hk0]
                      simp (disch := omega) [g1, g2, g3, g4, g5, dlt_f]
                    | succ kk =>
                      obtain ⟨a, ha⟩ : ∃ a, O[kk]? = some a := ⟨_, List.getElem?_eq_getElem (by omega)⟩
                      rw [kOf_succ, ha] at hkk
                      dsimp only at hkk
                      have ik := io kk (by omega)
                      have lk := fun tl => lo tl kk a ha
                      have wk : wrapV .i64 (((kk + 1 : Nat) : Int) - 1) = (kk : Int) := by rw [wrap_i (by omega) (by omega)]; omega
                      obtain ⟨k1, hk1⟩ : ∃ k1, k1 = kk + 1 := ⟨_, rfl⟩
                      rw [← hk1] at g5 wk hkk hkr
                      have hosn : ¬ os = [] := fun h => by rw [h] at hos; simp at hos
                      by_cases hless : less (clipS x) a = true
                      · rw [if_pos hless] at hkk
                        have hlt3 : clip x.off < a.off := (less_iff (clipS x) a).1 hless
                        simp (disch := omega) [g1, g2, g3, g4, g5, dlt_t, dltn_t, wk, ik, lk, nl2, natOf_nat, hosn, deqn_f, anyIn_cons, dlen_f]
                        exact ⟨kk, by omega, by omega, hkk, rfl⟩
                      · rw [if_neg hless] at hkk
                        have hlt3 : a.off ≤ clip x.off := by
                          have := fun h => hless ((less_iff (clipS x) a).2 h)
                          have this : ¬ clip x.off < a.off := this
                          omega
                        simp (disch := omega) [g1, g2, g3, g4, g5, dlt_t, dlt_f, dltn_t, wk, ik, lk, nl2, natOf_nat, hosn, deqn_f, anyIn_cons, dlen_f]
                        rw [hkk]
                  · clear g1 g2 g3
                    rintro x' s st ⟨rfl, rfl, g1, g2, g3, g4, g5⟩
                    have henc := ins_enc (x := clipS x) (O := O)
                    rw [hOl] at henc
                    have hkf := kOf_le (less := less) (x := clipS x) (l := O) r
                    have hnew := hins r x hx
                    rw [hO] at hnew
                    rw [← hnew] at henc
                    generalize kOf less (clipS x) O r = kf at *
                    have heO : (enc O).length = r * 5 := by rw [enc_len, hOl]
                    have hTl : (enc (O.take kf)).length = kf * 5 := by rw [enc_len, List.length_take]; omega
                    have hDl : (enc (O.drop kf)).length = (r - kf) * 5 := by rw [enc_len, List.length_drop]; omega
                    obtain ⟨X, hX⟩ : ∃ X, X = some (AObj.cells true [V.int .i64 (clip x.off), x.a, x.b, x.c, x.d]) := ⟨_, rfl⟩
                    obtain ⟨j1, b1, os1, e1, e2, e3, e4, e5, e6⟩ := joined (os := os ++ [X, some (.cells true [])]) (j := os.length + 1) (n := 0) (m := kf) (b := true) (cs := []) (new := enc (O.take kf))
                      (by rw [List.getElem?_append_right (by omega), show os.length + 1 - os.length = 1 from by omega]; rfl) rfl hTl (fun _ => rfl) (by omega)
                    have hl1 : (os ++ [X, some (AObj.cells true [])]).length = os.length + 2 := by rw [List.length_append]; rfl
                    rw [hl1] at e4 e5
                    rw [Nat.zero_add] at e1 e3
                    rw [List.nil_append] at e2
                    obtain ⟨j2, b2, os2, u1, u2, u3, u4, u5, u6⟩ := joined (os := os1 ++ [X]) (j := j1) (n := kf) (m := 1) (b := b1) (cs := enc (O.take kf)) (new := [.int .i64 (clip x.off), x.a, x.b, x.c, x.d])
                      (by
                        have := (List.getElem?_eq_some_iff.1 e2).1
                        rw [List.getElem?_append_left this]
                        exact e2) hTl rfl e3 (by omega)
                    have hl2 : (os1 ++ [X]).length = os1.length + 1 := by rw [List.length_append]; rfl
                    rw [hl2] at u4 u5
                    have hb2 : b2 = false := by
                      cases b2 with
                      | false => rfl
                      | true => have := u3 rfl; omega
                    subst hb2
                    obtain ⟨j3, b3, os3, v1, v2, v3, v4, v5, v6⟩ := joined (os := os2) (j := j2) (n := kf + 1) (m := r - kf) (b := false) (cs := enc (O.take kf) ++ [.int .i64 (clip x.off), x.a, x.b, x.c, x.d]) (new := enc (O.drop kf))
                      u2 (by rw [List.length_append, hTl]; show kf * 5 + 5 = _; omega) hDl (fun h => by cases h) (by omega)
                    have hb3 : b3 = false := by
                      cases b3 with
                      | false => rfl
                      | true => have := v3 rfl; omega
                    subst hb3
                    rw [show kf + 1 + (r - kf) = r + 1 from by omega] at v1
                    have hp1 : os1[os.length]? = some X := by
                      rw [e4 os.length (by omega) (by omega), List.getElem?_append_right (Nat.le_refl _), Nat.sub_self]
                      rfl
                    have hi1 : os1[i]? = some (some (.cells true (enc O))) := by
                      rw [e4 i (by omega) (by omega), List.getElem?_append_left hi2]
                      exact h3
                    have hi3 : os2[i]? = some (some (.cells true (enc O))) := by
                      rw [u4 i (by omega) (by omega), List.getElem?_append_left (by omega)]
                      exact hi1
                    have h03 : os3[0]? = some (objOf nil (enc l)) := by
                      rw [v4 0 (by omega) (by omega), u4 0 (by omega) (by omega), List.getElem?_append_left (by omega), e4 0 (by omega) (by omega), List.getElem?_append_left (by omega)]
                      exact ho
                    have sh : sliceOp (.slice 5) (.slice (some (i, 0)) 5 r r false) none (some (.int .i64 (kf : Int))) none = some (.slice (some (i, 0)) 5 kf r false) := slice_hi (by omega)
                    have sl : sliceOp (.slice 5) (.slice (some (i, 0)) 5 r r false) (some (.int .i64 (kf : Int))) none none = some (.slice (some (i, kf * 5)) 5 (r - kf) (r - kf) false) := (slice_lo (by omega)).trans (by
                      show some (V.slice (some (i, 0 + kf * 5)) 5 (r - kf) (r - kf) false) = _
                      rw [Nat.zero_add])
                    have f1 : firstN (few (os ++ [X, some (.cells true [])])) 5 kf (.slice (some (i, 0)) 5 kf r false) = some (enc (O.take kf)) := by
                      rw [first_fewC, cellsAt_eq, List.getElem?_append_left hi2, h3]
                      show (if kf ≤ kf then cut 0 (kf * 5) (enc O) else none) = _
                      rw [if_pos (Nat.le_refl _), cut_of (by omega), List.drop_zero, enc_take]
                    have f2 : firstN (few (os1 ++ [X])) 5 1 (.slice (some (os1.length, 0)) 5 1 1 true) = some [.int .i64 (clip x.off), x.a, x.b, x.c, x.d] := by
                      rw [first_fewC, cellsAt_eq, List.getElem?_append_right (Nat.le_refl _), Nat.sub_self, hX]
                      rfl
                    have f3 : firstN (few os2) 5 (r - kf) (.slice (some (i, kf * 5)) 5 (r - kf) (r - kf) false) = some (enc (O.drop kf)) := by
                      rw [first_fewC, cellsAt_eq, hi3]
                      show (if r - kf ≤ r - kf then cut (kf * 5) ((r - kf) * 5) (enc O) else none) = _
                      rw [if_pos (Nat.le_refl _), cut_of (by omega), enc_drop, List.take_of_length_le (by omega)]
                    have lx1 : loadV (few os1) true 5 (.ptr (some (os.length, 0))) = some (.agg [.int .i64 (clip x.off), x.a, x.b, x.c, x.d]) := by
                      rw [load_fewC, cellsAt_eq, hp1, hX]
                      rfl
                    have hXs : some (AObj.cells true [V.int .i64 (clip x.off), x.a, x.b, x.c, x.d]) = X := hX.symm
                    simp (disch := omega) [g1, g2, g3, g4, g5, sh, sl, append_zero, f1, f2, f3, lx1, e1, u1, v1, hXs, anyIn_cons, dlen_f, dlen_t, deqn_f, dltn_f, dltn_t]
                    exact ⟨k, by omega, r + 1, by omega, os3, rfl, h03, _, .inr ⟨by omega, j3, by omega, v2.trans (congrArg (fun e => some (some (AObj.cells true e))) henc), rfl⟩, rfl, by rw [wrap_i (by omega) (by omega)]; omega⟩
          obtain ⟨out, st1, e, os1, rfl, hcase⟩ := key
          have hsl : (srt l).length = n := by rw [srt_len, hln]
          rcases hcase with ⟨h0, h2⟩ | ⟨h0, i, h2, h3, h4⟩
          · subst h2
            have hnil0 : srt l = [] := List.length_eq_zero_iff.1 (by omega)
            rw [hnil0] at h1
            cases h1
            exact ⟨_, few os1, [], e, fun τ m => Left.flat rfl⟩
          · subst h4
            have hne : srt l ≠ [] := fun h0 => by rw [h0] at hsl; have : 0 = n := hsl; omega
            unfold madeA at h1
            rw [if_neg hne] at h1
            cases h1
            have hget : (few os1).heap.get i = some (.cells true (enc (srt l))) := by
              rw [few_heap, h3]
              rfl
            refine ⟨_, few os1, [i], e, fun τ m => ?_⟩
            rw [hsl]
            exact Left.cells (enc_flat fun s hs => (srt_in hok s hs).2) (Nat.le_refl _) h2 hget
        · cases h1
      · cases h1
    · cases h1
def SortedF (call : CallT) (g : Nat) : Prop := ∀ (st : St) (s : V) (l : List Stop), flatAt st 5 s = some (enc l) → lenOf s = some l.length → l.length < 20 → isSl s = true → call g [s] st = lawOut (some (madeA (srt l))) st
theorem sorted_fact {call : CallT} {g : Nat} : SortedF (withL call g (lawOf (oneRd shapeS 5 sortedS))) g := by
  intro st s l h1 h2 h3 h4
  have hp : shapeS.pick [s] = some (s, []) := by
    show (if isSl s = true then some (s, []) else none) = _
    rw [if_pos h4]
  rw [one_call hp h1 h2]
  show lawOut (match stopsOf (enc l) with | some l' => if l.length < 20 then some (madeA (srt l')) else none | none => none) st = _
  rw [stopsOf_enc]
  dsimp only
  rw [if_pos h3]
theorem SortedF.other {call : CallT} {n g : Nat} {l : List V → St → Option (V × St)} (h : SortedF call n) (hne : n ≠ g) : SortedF (withL call g l) n := fun st s l a b c d => by rw [withL_other hne]; exact h st s l a b c d
theorem SortedF.withF {call : CallT} {n g lf : Nat} {fn : AFunc} (h : SortedF call n) (hne : n ≠ g) : SortedF (Vabs.withF call g lf fn) n := fun st s l a b c d => by rw [withF_other hne]; exact h st s l a b c d

end Go.Vabs.Ln
