/-
  Lines of colours: the reference's Bent.
-/
import Derived.Test.YtefgofmjfaobpaaVabsMa
import Derived.Test.YtefgofmjfaobpaaVabsFy
namespace Go.Vabs.Ln
set_option linter.unusedVariables false
set_option linter.unusedSimpArgs false
set_option maxRecDepth 10000
attribute [local simp] wp_skip wp_ret wp_exit wp_reg wp_seq wp_cond wp_block thenQ_normal thenQ_ret thenQ_exit blockQ_normal blockQ_ret blockQ_exit wpCond_true wpCond_false wpOps_nil wpVal_some wpGuard_true wpGuard_false wpOps_guard wpOps_cons
  put_at put_no ev_c ev_slot posEq_h posEq_o posEq_i posEq_ho posEq_hi posEq_oh posEq_ih posEq_oi posEq_io sel_true sel_false
  okv_some step_mv step_call step_pick pickV_bool step_bin bin_add bin_sub bin_mul bin_eql bin_neq bin_lss bin_leq bin_gtr bin_geq bin_eqb bin_neb bin_eqs bin_nes step_un un_not un_neg step_len len_slice len_str len_const step_extract extractV nth step_convInt conv_int step_convStr step_slice step_idxAddr natOf_nat step_load step_index step_field step_fieldAddr step_build step_minmax
  step_alloc step_bslice bsliceV_some newV_some step_store step_append boolIs_b boolIs_t finQ_ret finQ_normal ressE_nil ressE_cons resE_tmp consO_some initE_nil initE_cons pos_0 pos_1 pos_2 pos_3 pos_4 pos_5 pos_6 pos_7 pos_8 plain_bool plain_int plain_str plain_ptr plain_slice plain_map plain_agg plain_func plain_nilFunc V.undef oneOf_one oneOf_two ble_self bin_agg eqV_parts eqV_int eqV_bool eqV_str eqParts_nil eqParts_cons eqC_true eqC_false eqO_some eqR_eql eqR_neq
attribute [local simp] wp_dreg wpDs_nil wpDs_cons wantedE_none wantedE_some wpDGuard_true wpDGuard_lim wpDGuard_false wpDLim_true wpDVal_free wpDVal_lim back_limited next_limited foot_convStr foot_load foot_store foot_alloc foot_box foot_bslice foot_append foot_call okAll_nil okAll_cons pastsOf nthP
  wpRounds_succ roundQ_normal roundQ_ret roundQ_exit cells_int cells_bool cells_str cells_agg cells_slice few_alloc lawOut_nil lawOut_one step_box newV alloc_dir backv back_back back_few next_back few_next resE_cell first_fewC grow_none grow_some cellsAt_zero cellsAt_succ ownAt_zero ownAt_succ loadC_some storeC_some firstC_some growC_some load_d convStr_d convStr_d0 store_d append_d2 append_d1 first_d2 first_d1 cut takeN nth splice over idOf okPair_dd okPair_dc okPair_cd okPair_cc anyIn_nil anyIn_same meets_nil meets_nil' meets_cons mem_nil mem_cons nbeq_dec blt_dec ble_dec fill repN firstNo lenOf fieldAddrV fieldV part natOf_zero natOf_one
open Go.Vabs.Ph Go.Vabs.Fl
set_option maxHeartbeats 2000000 in
theorem rbent_sound {P : Program} {call : CallT} (hmix : P.follows .mixedOrders = true) (h : Sound P call) {g nclip nm : Nat} (hclip : ClipF call nclip) (hm : ModF call nm) (hc : compF P g = some (rBent_c nclip nm)) :
    Sound P (withL call g (lawOf (oneRd shapeM 5 bentS))) :=
  h.one hmix 1 hc shapeM 5 fun rest nil n cs os f hnil hlen hflat h1 => by
    unfold bentS at h1
    split at h1
    · rename_i ext t
      split at h1
      · rename_i l hl
        have hcs := stopsOf_some _ _ hl
        subst hcs
        have hln : l.length = n := by rw [enc_len] at hlen; omega
        have ct := clip_le t
        have hput : shapeM.put [.int .i64 ext, .int .i64 t] (slE 5 nil n) = [.int .i64 ext, slE 5 nil n, .int .i64 t] := rfl
        have hlenS : ∀ st, lenV st .slice (slE 5 nil n) = some (.int .i64 (n : Int)) := fun st => rfl
        split at h1
        · rename_i a b ha hb
          split at h1
          · rename_i hin
            cases h1
            have in1 : -2147483647 ≤ a.off ∧ a.off ≤ 2147483647 := decide_eq_true_iff.1 hin.1
            have in2 : -2147483647 ≤ b.off ∧ b.off ≤ 2147483647 := decide_eq_true_iff.1 hin.2.1
            have hpos : 0 < n := by
              have := (List.getElem?_eq_some_iff.1 ha).1
              omega
            have hnf : nil = false := by
              cases nil with
              | false => rfl
              | true => have := (hnil rfl).1; omega
            subst hnf
            have i0 : idxAddrV (.slice 5) (slE 5 false n) (some 0) = some (.ptr (some (0, 0))) := by
              refine (idxAddr_slice (i := 0) (o := 0) (k := 0) (n := n) hpos).trans ?_
              rfl
            have i1 : idxAddrV (.slice 5) (slE 5 false n) (some (n - 1)) = some (.ptr (some (0, (n - 1) * 5))) := by
              refine (idxAddr_slice (i := 0) (o := 0) (k := n - 1) (n := n) (by omega)).trans ?_
              rw [Nat.zero_add]
            have l0 : loadV (few [some (.cells false (enc l))]) false 1 (.ptr (some (0, 0))) = some (.int .i64 a.off) := by
              have := load_off (os := [some (.cells false (enc l))]) (i := 0) (own := false) rfl ha
              rw [Nat.zero_mul] at this
              exact this
            have l1 : loadV (few [some (.cells false (enc l))]) false 1 (.ptr (some (0, (n - 1) * 5))) = some (.int .i64 b.off) := load_off (os := [some (.cells false (enc l))]) (i := 0) (own := false) rfl (by rw [← hln]; exact hb)
            have wn : natOf (.int .i64 ((n : Int) - 1)) = some (n - 1) := by
              rw [natOf_int (by omega)]
              congr 1
              omega
            generalize hx : (n - 1) * 5 = x5 at i1 l1
            have e : ∃ s1, enterF call 1 [.int .i64 ext, slE 5 false n, .int .i64 t] (few [some (.cells false (enc l))]) (rBent_c nclip nm) = some (.int .i64 (bentV ext a.off (b.off - a.off) (clip t)), s1) := by
              generalize slE 5 false n = sv at hlenS i0 i1 ⊢
              refine enter_ex ?_
              unfold bentV
              by_cases h1 : ext = 1
              · subst h1
                by_cases h0 : b.off - a.off = 0
                · have h0' : b.off = a.off := by omega
                  simp (disch := omega) [hclip _ _, hlenS, wrap_i, deq_f, deqn_f, i0, i1, l0, l1, wn, h0']
                · have hn0 : 0 < b.off - a.off := by have := hin.2.2.1; omega
                  have m1 := fun st => hm (clip t - a.off) (b.off - a.off) st hn0 (by omega)
                  have r1 := repeat_in (f := a.off) (t := clip t) hn0
                  unfold repeatI at r1
                  unfold repeatI
                  simp (disch := omega) [hclip _ _, hlenS, wrap_i, deq_f, deqn_f, i0, i1, l0, l1, wn, h0, m1]
              · by_cases h2 : ext = 2
                · subst h2
                  by_cases h0 : b.off - a.off = 0
                  · have h0' : b.off = a.off := by omega
                    simp (disch := omega) [hclip _ _, hlenS, wrap_i, deq_f, deqn_f, i0, i1, l0, l1, wn, h0']
                  · have hn0 : 0 < b.off - a.off := by have := hin.2.2.1; omega
                    have m1 := fun st => hm (clip t - a.off) (2 * (b.off - a.off)) st (by omega) (by omega)
                    have r1 := reflect_in (f := a.off) (t := clip t) hn0
                    have r2 := modI_eq (a := clip t - a.off) (show 0 < 2 * (b.off - a.off) by omega)
                    have r3 := Int.emod_nonneg (clip t - a.off) (show 2 * (b.off - a.off) ≠ 0 by omega)
                    have r4 := Int.emod_lt_of_pos (clip t - a.off) (show 0 < 2 * (b.off - a.off) by omega)
                    rw [← r2] at r3 r4
                    unfold reflectI at r1
                    unfold reflectI
                    by_cases hgt : b.off - a.off < modI (clip t - a.off) (2 * (b.off - a.off))
                    · have em : min (modI (clip t - a.off) (2 * (b.off - a.off))) (2 * (b.off - a.off) - modI (clip t - a.off) (2 * (b.off - a.off))) = 2 * (b.off - a.off) - modI (clip t - a.off) (2 * (b.off - a.off)) := by omega
                      simp (disch := omega) [hclip _ _, hlenS, wrap_i, deq_f, deqn_f, i0, i1, l0, l1, wn, h0, m1, em, dlt_t]
                    · have em : min (modI (clip t - a.off) (2 * (b.off - a.off))) (2 * (b.off - a.off) - modI (clip t - a.off) (2 * (b.off - a.off))) = modI (clip t - a.off) (2 * (b.off - a.off)) := by omega
                      simp (disch := omega) [hclip _ _, hlenS, wrap_i, deq_f, deqn_f, i0, i1, l0, l1, wn, h0, m1, em, dlt_f]
                · simp (disch := omega) [hclip _ _, hlenS, wrap_i, deq_f, deqn_f, h1, h2]
            obtain ⟨s1, e⟩ := e
            exact ⟨_, s1, [], e, fun τ m => Left.flat rfl⟩
          · cases h1
        · rename_i hno
          cases h1
          have hl0 : l = [] := by
            cases l with
            | nil => rfl
            | cons x l =>
              exfalso
              exact hno x ((x :: l)[(x :: l).length - 1]) rfl (List.getElem?_eq_getElem (by simp))
          subst hl0
          have hn0 : n = 0 := by simpa using hln.symm
          subst hn0
          have e : ∃ s1, enterF call 1 [.int .i64 ext, slE 5 nil 0, .int .i64 t] (memE nil (enc [])) (rBent_c nclip nm) = some (.int .i64 (clip t), s1) := by
            refine enter_ex ?_
            rw [show memE nil (enc []) = few [objOf nil (enc [])] from rfl]
            generalize slE 5 nil 0 = sv at hlenS ⊢
            simp (disch := omega) [hclip _ _, hlenS, wrap_i]
          obtain ⟨s1, e⟩ := e
          exact ⟨_, s1, [], e, fun τ m => Left.flat rfl⟩
      · cases h1
    · cases h1
structure RBentF (call : CallT) (g : Nat) : Prop where
  full : ∀ (st : St) (s : V) (ext : Int) (l : List Stop) (a b : Stop) (t : Int), flatAt st 5 s = some (enc l) → lenOf s = some l.length → isSl s = true → l[0]? = some a → l[l.length - 1]? = some b → inB a.off → inB b.off → a.off ≤ b.off → l.length < 20 →
    call g [.int .i64 ext, s, .int .i64 t] st = some (.int .i64 (bentV ext a.off (b.off - a.off) (clip t)), st)
  none : ∀ (st : St) (s : V) (ext t : Int), flatAt st 5 s = some [] → lenOf s = some 0 → isSl s = true → call g [.int .i64 ext, s, .int .i64 t] st = some (.int .i64 (clip t), st)
theorem pickM {a t : Int} {s : V} (h : isSl s = true) : shapeM.pick [.int .i64 a, s, .int .i64 t] = some (s, [.int .i64 a, .int .i64 t]) := by
  show (if (V.int .i64 a).flat = true ∧ isSl s = true ∧ (V.int .i64 t).flat = true then some (s, [V.int .i64 a, V.int .i64 t]) else Option.none) = _
  rw [if_pos ⟨rfl, h, rfl⟩]
theorem rbent_fact {call : CallT} {g : Nat} : RBentF (withL call g (lawOf (oneRd shapeM 5 bentS))) g := by
  constructor
  · intro st s ext l a b t h1 h2 h4 ha hb h5 h6 h7 h8
    rw [one_call (pickM h4) h1 h2]
    have e : bentS [.int .i64 ext, .int .i64 t] (isNil s) l.length (enc l) = some ([], fun _ => .int .i64 (bentV ext a.off (b.off - a.off) (clip t))) := by
      unfold bentS
      dsimp only
      rw [stopsOf_enc]
      dsimp only
      rw [ha, hb]
      dsimp only
      rw [if_pos ⟨decide_eq_true h5, decide_eq_true h6, h7, h8⟩]
    rw [e]
    rfl
  · intro st s ext t h1 h2 h4
    rw [one_call (pickM h4) h1 h2]
    rfl
theorem RBentF.other {call : CallT} {n g : Nat} {l : List V → St → Option (V × St)} (h : RBentF call n) (hne : n ≠ g) : RBentF (withL call g l) n :=
  ⟨fun st s ext l a b t h1 h2 h3 h4 h5 h6 h7 h8 h9 => by rw [withL_other hne]; exact h.full st s ext l a b t h1 h2 h3 h4 h5 h6 h7 h8 h9, fun st s ext t h1 h2 h3 => by rw [withL_other hne]; exact h.none st s ext t h1 h2 h3⟩
theorem RBentF.withF {call : CallT} {n g lf : Nat} {fn : AFunc} (h : RBentF call n) (hne : n ≠ g) : RBentF (Vabs.withF call g lf fn) n :=
  ⟨fun st s ext l a b t h1 h2 h3 h4 h5 h6 h7 h8 h9 => by rw [withF_other hne]; exact h.full st s ext l a b t h1 h2 h3 h4 h5 h6 h7 h8 h9, fun st s ext t h1 h2 h3 => by rw [withF_other hne]; exact h.none st s ext t h1 h2 h3⟩

end Go.Vabs.Ln
