/-
  Lines of colours: Bent.
-/
import Derived.Test.YtefgofmjfaobpaaVabsFp
namespace Go.Vabs.Ln
set_option linter.unusedVariables false
set_option linter.unusedSimpArgs false
set_option maxRecDepth 10000
attribute [local simp] wp_skip wp_ret wp_exit wp_reg wp_seq wp_cond wp_block thenQ_normal thenQ_ret thenQ_exit blockQ_normal blockQ_ret blockQ_exit wpCond_true wpCond_false wpOps_nil wpVal_some wpGuard_true wpGuard_false wpOps_guard wpOps_cons
  put_at put_no ev_c ev_slot posEq_h posEq_o posEq_i posEq_ho posEq_hi posEq_oh posEq_ih posEq_oi posEq_io sel_true sel_false
  okv_some step_mv step_call step_pick pickV_bool step_bin bin_add bin_sub bin_mul bin_eql bin_neq bin_lss bin_leq bin_gtr bin_geq bin_eqb bin_neb bin_eqs bin_nes step_un un_not un_neg step_len len_slice len_str len_const step_extract extractV nth step_convInt conv_int step_convStr step_slice step_idxAddr natOf_nat step_load step_index step_field step_fieldAddr step_build step_minmax
  step_alloc step_bslice bsliceV_some newV_some step_store step_append boolIs_b boolIs_t finQ_ret finQ_normal ressE_nil ressE_cons resE_tmp consO_some initE_nil initE_cons pos_0 pos_1 pos_2 pos_3 pos_4 pos_5 pos_6 pos_7 pos_8 plain_bool plain_int plain_str plain_ptr plain_slice plain_map plain_agg plain_func plain_nilFunc V.undef oneOf_one oneOf_two ble_self bin_agg eqV_parts eqV_int eqV_bool eqV_str eqParts_nil eqParts_cons eqC_true eqC_false eqO_some eqR_eql eqR_neq
attribute [local simp] wp_dreg wpDs_nil wpDs_cons wantedE_none wantedE_some wpDGuard_true wpDGuard_lim wpDGuard_false wpDLim_true wpDVal_free wpDVal_lim back_limited next_limited foot_convStr foot_load foot_store foot_alloc foot_box foot_bslice foot_append foot_call okAll_nil okAll_cons pastsOf nthP
  wpRounds_succ roundQ_normal roundQ_ret roundQ_exit cells_int cells_bool cells_str cells_agg cells_slice few_alloc lawOut_nil lawOut_one step_box newV alloc_dir backv back_back back_few next_back few_next resE_cell first_fewC grow_none grow_some cellsAt_zero cellsAt_succ ownAt_zero ownAt_succ loadC_some storeC_some firstC_some growC_some load_d convStr_d convStr_d0 store_d append_d2 append_d1 first_d2 first_d1 cut takeN nth splice over idOf okPair_dd okPair_dc okPair_cd okPair_cc anyIn_nil anyIn_same meets_nil meets_nil' meets_cons mem_nil mem_cons nbeq_dec blt_dec ble_dec fill repN firstNo lenOf fieldAddrV fieldV part natOf_zero natOf_one
open Go.Vabs.Ph Go.Vabs.Fl
def NewF (call : CallT) (g : Nat) : Prop := ∀ (st : St) (s : V) (ext : Int) (l : List Stop), flatAt st 5 s = some (enc l) → lenOf s = some l.length → l.length < 20 → isSl s = true → call g [.int .i64 ext, s] st = lawOut (some (newA ext (isNil s) l)) st
theorem new_fact {call : CallT} {g : Nat} : NewF (withL call g (lawOf (oneRd shape1 5 newS))) g := by
  intro st s ext l h1 h2 h3 h4
  have hp : shape1.pick [.int .i64 ext, s] = some (s, [.int .i64 ext]) := by
    show (if (V.int .i64 ext).flat = true ∧ isSl s = true then some (s, [V.int .i64 ext]) else none) = _
    rw [if_pos ⟨rfl, h4⟩]
  rw [one_call hp h1 h2]
  show lawOut (match stopsOf (enc l) with | some l' => if l.length < 20 then some (newA ext (isNil s) l') else none | none => none) st = _
  rw [stopsOf_enc]
  dsimp only
  rw [if_pos h3]
theorem NewF.other {call : CallT} {n g : Nat} {l : List V → St → Option (V × St)} (h : NewF call n) (hne : n ≠ g) : NewF (withL call g l) n := fun st s ext l a b c d => by rw [withL_other hne]; exact h st s ext l a b c d

/- BENT -/
def ModF (call : CallT) (g : Nat) : Prop := ∀ a n st, 0 < n → n < 1152921504606846976 → call g [.int .i64 a, .int .i64 n] st = some (.int .i64 (modI a n), st)
theorem mod_run {call : CallT} {lf : Nat} {a n : Int} {st : St} (h : 0 < n) (hn : n < 1152921504606846976) : enterF call lf [.int .i64 a, .int .i64 n] st modulo_c = some (.int .i64 (modI a n), st) := by
  have h1 := Int.lt_tmod_of_pos a h
  have h2 := Int.tmod_lt_of_pos a h
  refine enter_eq ?_
  unfold modI
  simp (disch := omega) [bin_rem, wrap_i]
theorem ModF.code {base : CallT} {g lf : Nat} : ModF (Vabs.withF base g lf modulo_c) g := fun a n st h1 h2 => by rw [withF_same]; exact mod_run h1 h2
theorem ModF.withF {call : CallT} {n g lf : Nat} {fn : AFunc} (h : ModF call n) (hne : n ≠ g) : ModF (Vabs.withF call g lf fn) n := fun a m st h1 h2 => by rw [withF_other hne]; exact h a m st h1 h2
theorem ModF.other {call : CallT} {n g : Nat} {l : List V → St → Option (V × St)} (h : ModF call n) (hne : n ≠ g) : ModF (withL call g l) n := fun a m st h1 h2 => by rw [withL_other hne]; exact h a m st h1 h2
/-- Where a place of the line is, f the first offset, n from there to the last. -/
def bentV (ext f n t : Int) : Int := if n = 0 then t else if ext = 1 then repeatI f n t else if ext = 2 then reflectI f n t else t
noncomputable def bentS : List V → Bool → Nat → List V → Option Ans
  | [.int .i64 ext, .int .i64 t], nil, n, cs => match stopsOf cs with
    | some l => match l[0]?, l[l.length - 1]? with
      | some a, some b => if inBB a.off = true ∧ inBB b.off = true ∧ a.off ≤ b.off ∧ l.length < 20 then some ([], fun _ => .int .i64 (bentV ext a.off (b.off - a.off) (clip t))) else none
      | _, _ => some ([], fun _ => .int .i64 (clip t))
    | none => none
  | _, _, _, _ => none
where inBB (n : Int) : Bool := decide (-2147483647 ≤ n ∧ n ≤ 2147483647)
set_option maxHeartbeats 2000000 in
theorem bent_sound {P : Program} {call : CallT} (hmix : P.follows .mixedOrders = true) (h : Sound P call) {g nclip nm : Nat} (hclip : ClipF call nclip) (hm : ModF call nm) (hc : compF P g = some (Bent_c nclip nm)) :
    Sound P (withL call g (lawOf (oneRd shapeA 5 bentS))) :=
  h.one hmix 1 hc shapeA 5 fun rest nil n cs os f hnil hlen hflat h1 => by
    unfold bentS at h1
    split at h1
    · rename_i ext t
      split at h1
      · rename_i l hl
        have hcs := stopsOf_some _ _ hl
        subst hcs
        have hln : l.length = n := by rw [enc_len] at hlen; omega
        have ct := clip_le t
        have hput : shapeA.put [.int .i64 ext, .int .i64 t] (slE 5 nil n) = [.agg [.int .i64 ext, slE 5 nil n], .int .i64 t] := rfl
        have hld : ∀ o0 sv, loadV (few [o0, some (.cells true [.int .i64 ext, sv])]) false 1 (.ptr (some (1, 1))) = some sv ∧ loadV (few [o0, some (.cells true [.int .i64 ext, sv])]) false 1 (.ptr (some (1, 0))) = some (.int .i64 ext) := fun o0 sv => by
          constructor <;> rw [load_fewC, cellsAt_eq] <;> rfl
        have hlenS : ∀ st, lenV st .slice (slE 5 nil n) = some (.int .i64 (n : Int)) := fun st => rfl
        split at h1
        · rename_i a b ha hb
          split at h1
          · rename_i hin
            cases h1
            have in1 : -2147483647 ≤ a.off ∧ a.off ≤ 2147483647 := decide_eq_true_iff.1 hin.1
            have in2 : -2147483647 ≤ b.off ∧ b.off ≤ 2147483647 := decide_eq_true_iff.1 hin.2.1
            have hpos : 0 < n := by
              have := (List.getElem?_eq_some_iff.1 ha).1
              omega
            have hnf : nil = false := by
              cases nil with
              | false => rfl
              | true => have := (hnil rfl).1; omega
            subst hnf
            have i0 : idxAddrV (.slice 5) (slE 5 false n) (some 0) = some (.ptr (some (0, 0))) := by
              refine (idxAddr_slice (i := 0) (o := 0) (k := 0) (n := n) hpos).trans ?_
              rfl
            have i1 : idxAddrV (.slice 5) (slE 5 false n) (some (n - 1)) = some (.ptr (some (0, (n - 1) * 5))) := by
              refine (idxAddr_slice (i := 0) (o := 0) (k := n - 1) (n := n) (by omega)).trans ?_
              rw [Nat.zero_add]
            have l0 : ∀ x, loadV (few [some (.cells false (enc l)), x]) false 1 (.ptr (some (0, 0))) = some (.int .i64 a.off) := fun x => by
              have := load_off (os := [some (.cells false (enc l)), x]) (i := 0) (own := false) rfl ha
              rw [Nat.zero_mul] at this
              exact this
            have l1 : ∀ x, loadV (few [some (.cells false (enc l)), x]) false 1 (.ptr (some (0, (n - 1) * 5))) = some (.int .i64 b.off) := fun x => load_off (os := [some (.cells false (enc l)), x]) (i := 0) (own := false) rfl (by rw [← hln]; exact hb)
            have wn : natOf (.int .i64 ((n : Int) - 1)) = some (n - 1) := by
              rw [natOf_int (by omega)]
              congr 1
              omega
            generalize hx : (n - 1) * 5 = x5 at i1 l1
            have e : ∃ s1, enterF call 1 [.agg [.int .i64 ext, slE 5 false n], .int .i64 t] (few [some (.cells false (enc l))]) (Bent_c nclip nm) = some (.int .i64 (bentV ext a.off (b.off - a.off) (clip t)), s1) := by
              generalize slE 5 false n = sv at hlenS i0 i1 ⊢
              refine enter_ex ?_
              unfold bentV
              by_cases h0 : b.off - a.off = 0
              · have h0' : b.off = a.off := by omega
                simp (disch := omega) [hclip _ _, (hld _ _).1, (hld _ _).2, hlenS, wrap_i, deq_f, deqn_f, i0, i1, l0, l1, wn, h0']
              · have hn0 : 0 < b.off - a.off := by have := hin.2.2.1; omega
                by_cases h1 : ext = 1
                · subst h1
                  have m1 := fun st => hm (clip t - a.off) (b.off - a.off) st hn0 (by omega)
                  have r1 := repeat_in (f := a.off) (t := clip t) hn0
                  unfold repeatI at r1
                  unfold repeatI
                  simp (disch := omega) [hclip _ _, (hld _ _).1, (hld _ _).2, hlenS, wrap_i, deq_f, deqn_f, i0, i1, l0, l1, wn, h0, m1]
                · by_cases h2 : ext = 2
                  · subst h2
                    have m1 := fun st => hm (clip t - a.off) (2 * (b.off - a.off)) st (by omega) (by omega)
                    have r1 := reflect_in (f := a.off) (t := clip t) hn0
                    have r2 := modI_eq (a := clip t - a.off) (show 0 < 2 * (b.off - a.off) by omega)
                    have r3 := Int.emod_nonneg (clip t - a.off) (show 2 * (b.off - a.off) ≠ 0 by omega)
                    have r4 := Int.emod_lt_of_pos (clip t - a.off) (show 0 < 2 * (b.off - a.off) by omega)
                    rw [← r2] at r3 r4
                    unfold reflectI at r1
                    unfold reflectI
                    simp (disch := omega) [hclip _ _, (hld _ _).1, (hld _ _).2, hlenS, wrap_i, deq_f, deqn_f, i0, i1, l0, l1, wn, h0, m1, Fl.mm_min]
                  · simp (disch := omega) [hclip _ _, (hld _ _).1, (hld _ _).2, hlenS, wrap_i, deq_f, deqn_f, i0, i1, l0, l1, wn, h0, h1, h2]
            obtain ⟨s1, e⟩ := e
            exact ⟨_, s1, [], e, fun τ m => Left.flat rfl⟩
          · cases h1
        · rename_i hno
          cases h1
          have hl0 : l = [] := by
            cases l with
            | nil => rfl
            | cons x l =>
              exfalso
              exact hno x ((x :: l)[(x :: l).length - 1]) rfl (List.getElem?_eq_getElem (by simp))
          subst hl0
          have hn0 : n = 0 := by simpa using hln.symm
          subst hn0
          have e : ∃ s1, enterF call 1 [.agg [.int .i64 ext, slE 5 nil 0], .int .i64 t] (memE nil (enc [])) (Bent_c nclip nm) = some (.int .i64 (clip t), s1) := by
            refine enter_ex ?_
            rw [show memE nil (enc []) = few [objOf nil (enc [])] from rfl]
            generalize slE 5 nil 0 = sv at hlenS ⊢
            simp (disch := omega) [hclip _ _, (hld _ _).1, (hld _ _).2, hlenS, wrap_i]
          obtain ⟨s1, e⟩ := e
          exact ⟨_, s1, [], e, fun τ m => Left.flat rfl⟩
      · cases h1
    · cases h1

end Go.Vabs.Ln
