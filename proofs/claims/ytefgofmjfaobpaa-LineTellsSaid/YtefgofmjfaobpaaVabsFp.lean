/-
  Lines of colours: New.
-/
import Derived.Test.YtefgofmjfaobpaaVabsFo
import Derived.Test.YtefgofmjfaobpaaVabsFl
namespace Go.Vabs.Ln
set_option linter.unusedVariables false
set_option linter.unusedSimpArgs false
set_option maxRecDepth 10000
attribute [local simp] wp_skip wp_ret wp_exit wp_reg wp_seq wp_cond wp_block thenQ_normal thenQ_ret thenQ_exit blockQ_normal blockQ_ret blockQ_exit wpCond_true wpCond_false wpOps_nil wpVal_some wpGuard_true wpGuard_false wpOps_guard wpOps_cons
  put_at put_no ev_c ev_slot posEq_h posEq_o posEq_i posEq_ho posEq_hi posEq_oh posEq_ih posEq_oi posEq_io sel_true sel_false
  okv_some step_mv step_call step_pick pickV_bool step_bin bin_add bin_sub bin_mul bin_eql bin_neq bin_lss bin_leq bin_gtr bin_geq bin_eqb bin_neb bin_eqs bin_nes step_un un_not un_neg step_len len_slice len_str len_const step_extract extractV nth step_convInt conv_int step_convStr step_slice step_idxAddr natOf_nat step_load step_index step_field step_fieldAddr step_build step_minmax
  step_alloc step_bslice bsliceV_some newV_some step_store step_append boolIs_b boolIs_t finQ_ret finQ_normal ressE_nil ressE_cons resE_tmp consO_some initE_nil initE_cons pos_0 pos_1 pos_2 pos_3 pos_4 pos_5 pos_6 pos_7 pos_8 plain_bool plain_int plain_str plain_ptr plain_slice plain_map plain_agg plain_func plain_nilFunc V.undef oneOf_one oneOf_two ble_self bin_agg eqV_parts eqV_int eqV_bool eqV_str eqParts_nil eqParts_cons eqC_true eqC_false eqO_some eqR_eql eqR_neq
attribute [local simp] wp_dreg wpDs_nil wpDs_cons wantedE_none wantedE_some wpDGuard_true wpDGuard_lim wpDGuard_false wpDLim_true wpDVal_free wpDVal_lim back_limited next_limited foot_convStr foot_load foot_store foot_alloc foot_box foot_bslice foot_append foot_call okAll_nil okAll_cons pastsOf nthP
  wpRounds_succ roundQ_normal roundQ_ret roundQ_exit cells_int cells_bool cells_str cells_agg cells_slice few_alloc lawOut_nil lawOut_one step_box newV alloc_dir backv back_back back_few next_back few_next resE_cell first_fewC grow_none grow_some cellsAt_zero cellsAt_succ ownAt_zero ownAt_succ loadC_some storeC_some firstC_some growC_some load_d convStr_d convStr_d0 store_d append_d2 append_d1 first_d2 first_d1 cut takeN nth splice over idOf okPair_dd okPair_dc okPair_cd okPair_cc anyIn_nil anyIn_same meets_nil meets_nil' meets_cons mem_nil mem_cons nbeq_dec blt_dec ble_dec fill repN firstNo lenOf fieldAddrV fieldV part natOf_zero natOf_one
open Go.Vabs.Ph Go.Vabs.Fl
/- A COPY -/
def CloneSF (call : CallT) (g : Nat) : Prop :=
  (∀ e n c f st, call g [.slice none e n c f] st = some (.slice none 0 0 0 true, st)) ∧
  (∀ os i own, (os[i]?).join = some (.cells own []) → call g [.slice (some (i, 0)) 5 0 0 false] (few os) = some (.slice (some (os.length, 0)) 5 0 0 true, few (os ++ [some (.cells true [])]))) ∧
  ∀ os i own n cs, (os[i]?).join = some (.cells own cs) → cs.length = n * 5 → 0 < n → n ≤ 1000 → call g [.slice (some (i, 0)) 5 n n false] (few os) = some (.slice (some (os.length + 1, 0)) 5 n n false, few (os ++ [some (.cells true []), some (.cells true cs)]))
theorem join_new {os : List (Option AObj)} {o : Option AObj} {l : List (Option AObj)} : ((os ++ o :: l)[os.length]?).join = o := by simp
theorem cloneS_run {call : CallT} {lf : Nat} {os : List (Option AObj)} {i n : Nat} {own : Bool} {cs : List V} (h : (os[i]?).join = some (.cells own cs)) (hl : cs.length = n * 5) (hn : 0 < n) (h1000 : n ≤ 1000) :
    enterF call lf [.slice (some (i, 0)) 5 n n false] (few os) CloneS_c = some (.slice (some (os.length + 1, 0)) 5 n n false, few (os ++ [some (.cells true []), some (.cells true cs)])) := by
  have hi : i < os.length := by
    cases hx : os[i]? with
    | none => rw [hx] at h; cases h
    | some y => exact (List.getElem?_eq_some_iff.1 hx).1
  have h2 : ((os ++ [some (AObj.cells true [])])[i]?).join = some (.cells own cs) := by rw [List.getElem?_append_left hi]; exact h
  have hf : firstN (few (os ++ [some (AObj.cells true [])])) 5 n (.slice (some (i, 0)) 5 n n false) = some cs := by
    rw [first_fewC, cellsAt_eq, h2]
    show (if n ≤ n then cut 0 (n * 5) cs else none) = some cs
    rw [if_pos (Nat.le_refl _), cut_of (by omega), List.drop_zero, ← hl, List.take_length]
  have ha := append_newE (os := os ++ [some (AObj.cells true [])]) (j := os.length) (n := n) (e := 5) (bytes := 40) (new := cs) join_new hn hl (by omega) (by omega)
  refine enter_eq ?_
  simp [bin_eqnil, few_alloc, hf, ha]
theorem CloneSF.code {base : CallT} {g lf : Nat} : CloneSF (Vabs.withF base g lf CloneS_c) g := by
  refine ⟨fun e n c f st => ?_, fun os i own h => ?_, fun os i own n cs h1 h2 h3 h4 => ?_⟩
  · rw [withF_same]
    refine enter_eq ?_
    simp [bin_eqnil2]
  · rw [withF_same]
    have hi : i < os.length := by
      cases hx : os[i]? with
      | none => rw [hx] at h; cases h
      | some y => exact (List.getElem?_eq_some_iff.1 hx).1
    have h2 : ((os ++ [some (AObj.cells true [])])[i]?).join = some (.cells own []) := by rw [List.getElem?_append_left hi]; exact h
    have hf : firstN (few (os ++ [some (AObj.cells true [])])) 5 0 (.slice (some (i, 0)) 5 0 0 false) = some [] := by
      rw [first_fewC, cellsAt_eq, h2]
      rfl
    refine enter_eq ?_
    simp [bin_eqnil, few_alloc, hf, append_noneE]
  · rw [withF_same]
    exact cloneS_run h1 h2 h3 h4
theorem CloneSF.withF {call : CallT} {n g lf : Nat} {fn : AFunc} (h : CloneSF call n) (hne : n ≠ g) : CloneSF (Vabs.withF call g lf fn) n :=
  ⟨fun e m c f st => by rw [withF_other hne]; exact h.1 e m c f st, fun os i own a => by rw [withF_other hne]; exact h.2.1 os i own a, fun os i own m cs a b c d => by rw [withF_other hne]; exact h.2.2 os i own m cs a b c d⟩

/- OFFSETS BROUGHT WITHIN BOUNDS -/
noncomputable section
def clipS (s : Stop) : Stop := { s with off := clip s.off }
def clips (m : Nat) (l : List Stop) : List Stop := (l.take m).map clipS ++ l.drop m
/-- The stops of a line, in order. -/
def srt (l : List Stop) : List Stop := sinks less (l.length - 1) 1 (l.map clipS)
end
theorem clips_at {m : Nat} {l : List Stop} (h : m < l.length) : (clips m l)[m]? = l[m]? := by
  unfold clips
  rw [List.getElem?_append_right (by simp; omega), List.getElem?_drop]
  congr 1
  simp
  omega
theorem clips_len {m : Nat} {l : List Stop} : (clips m l).length = l.length := by
  unfold clips
  simp
  omega
theorem clips_succ {m : Nat} {l : List Stop} {s : Stop} (h : l[m]? = some s) : (clips m l).set m (clipS s) = clips (m + 1) l := by
  have hm := (List.getElem?_eq_some_iff.1 h).1
  apply List.ext_getElem?
  intro k
  rw [List.getElem?_set, clips_len]
  unfold clips
  by_cases e : m = k
  · subst e
    rw [if_pos rfl, if_pos hm, List.getElem?_append_left (by simp; omega), List.getElem?_map, List.getElem?_take_of_lt (by omega), h]
    rfl
  · rw [if_neg e]
    by_cases lt : k < m
    · rw [List.getElem?_append_left (by simp; omega), List.getElem?_append_left (by simp; omega), List.getElem?_map, List.getElem?_map, List.getElem?_take_of_lt lt, List.getElem?_take_of_lt (by omega)]
    · rw [List.getElem?_append_right (by simp; omega), List.getElem?_append_right (by simp; omega), List.getElem?_drop, List.getElem?_drop]
      congr 1
      simp
      omega
theorem clips_zero {l : List Stop} : clips 0 l = l := by simp [clips]
theorem clips_all {l : List Stop} : clips l.length l = l.map clipS := by simp [clips]
theorem srt_len {l : List Stop} : (srt l).length = l.length := by unfold srt; rw [sinks_len, List.length_map]
theorem srt_in {l : List Stop} (h : ∀ s ∈ l, s.ok) : ∀ s ∈ srt l, inB s.off ∧ s.ok := by
  intro s hs
  have := sinks_mem _ _ _ hs
  simp only [List.mem_map] at this
  obtain ⟨t, ht, rfl⟩ := this
  exact ⟨clip_le t.off, h t ht⟩
/-- NEW: a copy, brought within bounds, in order. -/
noncomputable def newA (ext : Int) (nil : Bool) (l : List Stop) : Ans :=
  if nil = true then ([], fun _ => .agg [.int .i64 ext, .slice none 0 0 0 true]) else ([.cells true (enc (srt l))], fun k => .agg [.int .i64 ext, .slice (some (k, 0)) 5 l.length l.length false])
noncomputable def newS : List V → Bool → Nat → List V → Option Ans
  | [.int .i64 ext], nil, n, cs => match stopsOf cs with
    | some l => if n < 20 then some (newA ext nil l) else none
    | none => none
  | _, _, _, _ => none
theorem sort_nil {call : CallT} {ni nm nc : Nat} (hins : ∀ e c f st, call ni [.slice none e 0 c f, .int .i64 0, .int .i64 0, .func nc [] []] st = some (.tuple [], st)) {e c : Nat} {f : Bool} {st : St} : enterF call 2 [.slice none e 0 c f, .int .i64 0, .func nc [] []] st (stable_c ni nm) = some (.tuple [], st) := by
  refine enter_eq ?_
  simp (disch := omega) [wp_rounds, hins]
  rfl
theorem ins_nil {call : CallT} {nc : Nat} {e c : Nat} {f : Bool} {st : St} : enterF call 22 [.slice none e 0 c f, .int .i64 0, .int .i64 0, .func nc [] []] st insertion_c = some (.tuple [], st) := by
  refine enter_eq ?_
  simp (disch := omega) [wp_rounds, wrap_i]
  rfl
def SortNF (call : CallT) (g nc : Nat) : Prop := ∀ e c f st, call g [.slice none e 0 c f, .func nc [] []] st = some (.tuple [], st)
theorem SortNF.code {base : CallT} {g ns ni nm nc : Nat} (hins : ∀ e c f st, base ni [.slice none e 0 c f, .int .i64 0, .int .i64 0, .func nc [] []] st = some (.tuple [], st)) : SortNF (withF (withF base ns 2 (stable_c ni nm)) g 1 (SortStable_c ns)) g nc := fun e c f st => by
  rw [withF_same]
  have h : withF base ns 2 (stable_c ni nm) ns [.slice none e 0 c f, .int .i64 0, .func nc [] []] st = some (.tuple [], st) := by
    rw [withF_same]
    exact sort_nil hins
  refine enter_eq ?_
  simp [h]
  rfl
set_option maxHeartbeats 2000000 in
theorem new_sound {P : Program} {call : CallT} (hmix : P.follows .mixedOrders = true) (h : Sound P call) {g nc ncl nclip ns : Nat} (hcl : CloneSF call ncl) (hclip : ClipF call nclip) (hs : SortF call ns nc) (hsn : SortNF call ns nc) (hc : compF P g = some (New_c nc ncl nclip ns)) :
    Sound P (withL call g (lawOf (oneRd shape1 5 newS))) :=
  h.one hmix 20 hc shape1 5 fun rest nil n cs os f hnil hlen hflat h1 => by
    unfold newS at h1
    split at h1
    · rename_i ext
      split at h1
      · rename_i l hl
        split at h1
        · rename_i hn
          simp only [Option.some.injEq] at h1
          have hcs := stopsOf_some _ _ hl
          subst hcs
          have hok := flat_enc hflat
          have hln : l.length = n := by rw [enc_len] at hlen; omega
          cases nil with
          | true =>
            unfold newA at h1
            cases h1
            obtain ⟨rfl, he⟩ := hnil rfl
            have hl0 : l = [] := List.length_eq_zero_iff.1 hln
            subst hl0
            have e : ∃ s1, enterF call 20 [.int .i64 ext, slE 5 true 0] (memE true (enc [])) (New_c nc ncl nclip ns) = some (.agg [.int .i64 ext, .slice none 0 0 0 true], s1) := by
              refine enter_ex ?_
              simp (disch := omega) [memE, objOf, slE, hcl.1, hsn _ _ _ _, load_fewC, store_fewC, wp_rounds]
            obtain ⟨s1, e⟩ := e
            refine ⟨_, s1, [], e, fun τ m => ?_⟩
            refine ⟨fun ι1 ι2 x _ hr => ?_, rfl, (fun j k o h => by cases h), (fun j j' k h => by cases h)⟩
            exact flatA_R (v := .agg [.int .i64 ext, .slice none 0 0 0 true]) rfl hr
          | false =>
            unfold newA at h1
            cases h1
            obtain ⟨pre, i, c, ff, hpl, hcl2, hat, h1000⟩ : ∃ (pre : List (Option AObj)) (i c : Nat) (ff : Bool), i < pre.length ∧ call ncl [slE 5 false n] (few [some (.cells false (enc l)), some (.cells true [.int .i64 0, .slice none 0 0 0 true])]) = some (.slice (some (i, 0)) 5 n c ff, few pre) ∧
                (pre[i]?).join = some (.cells true (enc l)) ∧ ((∀ L, (((upO pre i L)[1]?).join = some (.cells true [.int .i64 0, .slice none 0 0 0 true]))) ∧ n ≤ c ∧ 1 ≠ i ∧ 1 ≤ i) := by
              by_cases h0 : n = 0
              · subst h0
                have hl0 : l = [] := List.length_eq_zero_iff.1 hln
                subst hl0
                exact ⟨_, 2, 0, true, by simp, hcl.2.1 [some (.cells false (enc [])), some (.cells true [.int .i64 0, .slice none 0 0 0 true])] 0 false rfl, rfl, fun L => rfl, by omega, by omega, by omega⟩
              · exact ⟨_, 3, n, false, by simp, hcl.2.2 [some (.cells false (enc l)), some (.cells true [.int .i64 0, .slice none 0 0 0 true])] 0 false n (enc l) rfl hlen (by omega) (by omega), rfl, fun L => rfl, by omega, by omega, by omega⟩
            obtain ⟨h1at, hnc, hne, hi1⟩ := h1000
            have hidx : ∀ q, q < n → idxAddrV (.slice 5) (.slice (some (i, 0)) 5 n c ff) (some q) = some (.ptr (some (i, q * 5))) := fun q hq => by rw [idxAddr_slice hq, Nat.zero_add]
            have hsort := fun L (hL : L.length = n) hok => hs (upO pre i L) i n c ff L (upO_at hpl) hL (by omega) hok
            have e : ∃ s1, enterF call 20 [.int .i64 ext, slE 5 false n] (memE false (enc l)) (New_c nc ncl nclip ns) = some (.agg [.int .i64 ext, .slice (some (i, 0)) 5 n c ff], s1) ∧ s1.heap.get i = some (.cells true (enc (srt l))) := by
              refine enter_wp2 ?_
              have hm : memE false (enc l) = few [some (.cells false (enc l))] := rfl
              rw [hm]
              rw [← upO_self hat] at hcl2
              generalize hsv : slE 5 false n = sv at hcl2 ⊢
              simp (disch := omega) [hcl2, wrap_i]
              refine wp_loop (fun k s st => ∃ x : Nat, x + k = n ∧ st = few (upO pre i (clips x l)) ∧ s .h = .int .i64 ext ∧ s (.i (.o .h)) = .ptr (some (1, 0)) ∧ s (.o (.i .h)) = .slice (some (i, 0)) 5 n c ff ∧ s (.i (.i (.o .h))) = .int .i64 (n : Int) ∧ s (.o (.o (.i .h))) = .int .i64 (x : Int)) n ?_ (by omega) ?_
              · refine ⟨0, by omega, by rw [clips_zero], ?_, ?_, ?_, ?_, ?_⟩ <;> simp
              · rintro k s st ⟨x, hx, rfl, s1, s2, s3, s4, s5⟩
                cases k with
                | zero =>
                  obtain rfl : x = n := by omega
                  have hcl3 : clips x l = l.map clipS := by rw [← hln]; exact clips_all
                  have hs1 := hsort (clips x l) (by rw [clips_len, hln]) (fun s hs => by
                    rw [hcl3] at hs
                    simp only [List.mem_map] at hs
                    obtain ⟨t, ht, rfl⟩ := hs
                    exact ⟨clip_le t.off, hok t ht⟩)
                  have hup : upO (upO pre i (clips x l)) i (sinks less (x - 1) 1 (clips x l)) = upO pre i (srt l) := by
                    unfold upO
                    rw [List.set_set]
                    unfold srt
                    rw [hcl3, hln]
                  rw [hup] at hs1
                  have hst := storeN_few (os := upO pre i (srt l)) (i := 1) (o := 0) (n := 2) (cs := [.int .i64 0, .slice none 0 0 0 true]) (vs := [.int .i64 ext, .slice (some (i, 0)) 5 x c ff]) (h1at _) rfl (by simp)
                  have hlen1 : 1 < (upO pre i (srt l)).length := by rw [upO_len]; omega
                  have hld : loadV (few ((upO pre i (srt l)).set 1 (some (.cells true [.int .i64 ext, .slice (some (i, 0)) 5 x c ff])))) true 2 (.ptr (some (1, 0))) = some (.agg [.int .i64 ext, .slice (some (i, 0)) 5 x c ff]) := by
                    rw [load_fewC, cellsAt_eq, List.getElem?_set, if_pos rfl, if_pos hlen1]
                    rfl
                  have hget : (few ((upO pre i (srt l)).set 1 (some (.cells true [.int .i64 ext, .slice (some (i, 0)) 5 x c ff])))).heap.get i = some (.cells true (enc (srt l))) := by
                    rw [few_heap, List.getElem?_set, if_neg hne]
                    exact upO_at hpl
                  simp at hst
                  simp (disch := omega) [s1, s2, s3, s4, s5, hs1, hst, hld, hget]
                | succ k =>
                  have hlt : x < n := by omega
                  have hat2 : (clips x l)[x]? = some l[x] := by rw [clips_at (by omega)]; exact List.getElem?_eq_getElem (by omega)
                  have hat1 : l[x]? = some l[x] := List.getElem?_eq_getElem (by omega)
                  generalize l[x] = t at hat1 hat2
                  have i1 := hidx x hlt
                  have l1 := load_off (upO_at (os := pre) (l := clips x l) hpl) hat2
                  have st1 : storeV (few (upO pre i (clips x l))) 1 (.ptr (some (i, x * 5))) (some [.int .i64 (clip t.off)]) = some (V.undef, few (upO pre i (clips (x + 1) l))) := by
                    rw [store_off (upO_at (os := pre) (l := clips x l) hpl) hat2, upO_up]
                    have := clips_succ hat1
                    unfold clipS at this
                    rw [this]
                  simp (disch := omega) [s1, s2, s3, s4, s5, dlt_t, dltn_t, hlt, natOf_nat, i1, l1, hclip _ _, st1, wrap_i]
                  exact ⟨k, by omega, x + 1, by omega, rfl, by simp⟩
            obtain ⟨s1, e, e2⟩ := e
            refine ⟨_, s1, [i], e, fun τ m => ?_⟩
            have hll : l.length = n := hln
            show Left τ m _ s1 _ [.cells true (enc (srt l))] [i] (.agg [.int .i64 ext, .slice (some (m, 0)) 5 l.length l.length false])
            rw [hll]
            exact Left.aggSl rfl (enc_flat fun s hs => (srt_in hok s hs).2) hnc hi1 e2
        · cases h1
      · cases h1
    · cases h1

end Go.Vabs.Ln
