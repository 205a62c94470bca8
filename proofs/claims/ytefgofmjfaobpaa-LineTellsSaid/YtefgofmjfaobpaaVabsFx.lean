/-
  LineColors: plain.
-/
import Derived.Test.YtefgofmjfaobpaaVabsFw
import Derived.Test.YtefgofmjfaobpaaVabsLs
namespace Go.Vabs.Ln
set_option linter.unusedVariables false
set_option linter.unusedSimpArgs false
set_option maxRecDepth 10000
attribute [local simp] wp_skip wp_ret wp_exit wp_reg wp_seq wp_cond wp_block thenQ_normal thenQ_ret thenQ_exit blockQ_normal blockQ_ret blockQ_exit wpCond_true wpCond_false wpOps_nil wpVal_some wpGuard_true wpGuard_false wpOps_guard wpOps_cons
  put_at put_no ev_c ev_slot posEq_h posEq_o posEq_i posEq_ho posEq_hi posEq_oh posEq_ih posEq_oi posEq_io sel_true sel_false
  okv_some step_mv step_call step_pick pickV_bool step_bin bin_add bin_sub bin_mul bin_eql bin_neq bin_lss bin_leq bin_gtr bin_geq bin_eqb bin_neb bin_eqs bin_nes step_un un_not un_neg step_len len_slice len_str len_const step_extract extractV nth step_convInt conv_int step_convStr step_slice step_idxAddr natOf_nat step_load step_index step_field step_fieldAddr step_build step_minmax
  step_alloc step_bslice bsliceV_some newV_some step_store step_append boolIs_b boolIs_t finQ_ret finQ_normal ressE_nil ressE_cons resE_tmp consO_some initE_nil initE_cons pos_0 pos_1 pos_2 pos_3 pos_4 pos_5 pos_6 pos_7 pos_8 plain_bool plain_int plain_str plain_ptr plain_slice plain_map plain_agg plain_func plain_nilFunc V.undef oneOf_one oneOf_two ble_self bin_agg eqV_parts eqV_int eqV_bool eqV_str eqParts_nil eqParts_cons eqC_true eqC_false eqO_some eqR_eql eqR_neq
attribute [local simp] wp_dreg wpDs_nil wpDs_cons wantedE_none wantedE_some wpDGuard_true wpDGuard_lim wpDGuard_false wpDLim_true wpDVal_free wpDVal_lim back_limited next_limited foot_convStr foot_load foot_store foot_alloc foot_box foot_bslice foot_append foot_call okAll_nil okAll_cons pastsOf nthP
  wpRounds_succ roundQ_normal roundQ_ret roundQ_exit cells_int cells_bool cells_str cells_agg cells_slice few_alloc lawOut_nil lawOut_one step_box newV alloc_dir backv back_back back_few next_back few_next resE_cell first_fewC grow_none grow_some cellsAt_zero cellsAt_succ ownAt_zero ownAt_succ loadC_some storeC_some firstC_some growC_some load_d convStr_d convStr_d0 store_d append_d2 append_d1 first_d2 first_d1 cut takeN nth splice over idOf okPair_dd okPair_dc okPair_cd okPair_cc anyIn_nil anyIn_same meets_nil meets_nil' meets_cons mem_nil mem_cons nbeq_dec blt_dec ble_dec fill repN firstNo lenOf fieldAddrV fieldV part natOf_zero natOf_one
open Go.Vabs.Ph Go.Vabs.Fl
theorem srt_sorted {l : List Stop} {p q : Nat} {a b : Stop} (hpq : p ≤ q) (ha : (srt l)[p]? = some a) (hb : (srt l)[q]? = some b) : a.off ≤ b.off := by
  have hq : q < (srt l).length := (List.getElem?_eq_some_iff.1 hb).1
  rw [srt_len] at hq
  have h := sinks_sorted (key := Stop.off) less_iff (l.length - 1) 1 (l.map clipS) (by omega) (by rw [List.length_map]; omega) (fun p q x y h1 h2 hx hy => by
    have hp0 : p = q := by omega
    subst hp0
    rw [hx] at hy
    cases hy
    exact Int.le_refl _)
  rw [List.length_map] at h
  exact h p q a b hpq (by omega) ha hb
theorem lastI_eq {l : List Stop} {u : Int} {i : Nat} {s : Stop} (hs : (srt l)[i]? = some s) (h1 : s.off ≤ u) (h2 : ∀ s', (srt l)[i + 1]? = some s' → u < s'.off) : lastI u (srt l) (srt l).length = (i : Int) := by
  have hi : i < (srt l).length := (List.getElem?_eq_some_iff.1 hs).1
  have hb := lastI_in (u := u) (l := srt l) (srt l).length (Nat.le_refl _)
  by_cases c1 : lastI u (srt l) (srt l).length < (i : Int)
  · have := lastI_next c1 hi hs
    omega
  · obtain ⟨j, hj⟩ : ∃ j : Nat, lastI u (srt l) (srt l).length = (j : Int) := ⟨(lastI u (srt l) (srt l).length).toNat, by omega⟩
    by_cases c2 : j = i
    · rw [hj, c2]
    · have hjl : j < (srt l).length := by omega
      have hsj : (srt l)[j]? = some (srt l)[j] := List.getElem?_eq_getElem hjl
      have hsn : (srt l)[i + 1]? = some (srt l)[i + 1] := List.getElem?_eq_getElem (by omega)
      have a1 := lastI_off hj hsj
      have a2 := h2 _ hsn
      have a3 := srt_sorted (show i + 1 ≤ j by omega) hsn hsj
      omega
theorem srt_firstLast {l : List Stop} : firstLast (srt l) := by
  unfold firstLast
  split
  · rename_i a b ha hb
    exact srt_ends ha hb
  · trivial
theorem bentL_pad {l : List Stop} {t : Int} (h : inB t) : bentL 0 l t = t := by
  unfold inB at h
  have e := clip_id h.1 h.2
  unfold bentL
  split
  · unfold bentV
    rw [e]
    split
    · rfl
    · rw [if_neg (by decide), if_neg (by decide)]
  · exact e
/-- At a stop. -/
theorem at_stop {l : List Stop} {i : Nat} {s : Stop} (hs : (srt l)[i]? = some s) (hin : inB s.off) (hok : (pxD s).ok) (h2 : ∀ s', (srt l)[i + 1]? = some s' → s.off < s'.off) : atP 0 (srt l) s.off = (pxD s).pre := by
  have hne : srt l ≠ [] := fun h => by rw [h] at hs; simp at hs
  unfold atP
  rw [if_neg hne, bentL_pad hin, lastI_eq hs (Int.le_refl _) h2]
  unfold colAt
  rw [if_neg (by omega), Int.toNat_natCast, hs]
  cases hn : (srt l)[i + 1]? with
  | none => rfl
  | some s' =>
    dsimp only
    have e : unit16 (divI (s.off - s.off) (s'.off - s.off)) = 0 := by
      unfold unit16 divI
      rw [Int.sub_self]
      have : clip 0 = 0 := clip_id (by omega) (by omega)
      rw [this, Int.zero_mul, Int.zero_ediv, this]
      omega
    rw [e]
    exact mixP_zero (pre_ok hok)
/-- Between two stops. -/
theorem at_between {l : List Stop} {i : Nat} {s s' : Stop} {n : Int} (hs : (srt l)[i]? = some s) (hs' : (srt l)[i + 1]? = some s') (hin : inB n) (h1 : s.off ≤ n) (h2 : n < s'.off) : atP 0 (srt l) n = mixP (pxD s).pre (pxD s').pre (unit16 (divI (n - s.off) (s'.off - s.off))) := by
  have hne : srt l ≠ [] := fun h => by rw [h] at hs; simp at hs
  unfold atP
  rw [if_neg hne, bentL_pad hin, lastI_eq hs h1 (fun x hx => by rw [hs'] at hx; cases hx; exact h2)]
  unfold colAt
  rw [if_neg (by omega), Int.toNat_natCast, hs, hs']
/-- A line of one colour. -/
theorem at_one {l : List Stop} {ext t : Int} {p : Px} (hne : l ≠ []) (hp : p.ok) (h : ∀ s ∈ l, pxD s = p) : atP ext l t = p.pre := by
  unfold atP
  rw [if_neg hne]
  unfold colAt
  have hl0 : 0 < l.length := by
    cases l with
    | nil => exact absurd rfl hne
    | cons a l => simp
  have hb := lastI_in (u := bentL ext l t) (l := l) l.length (Nat.le_refl _)
  split
  · rw [List.getElem?_eq_getElem hl0]
    dsimp only
    rw [h _ (List.getElem_mem hl0)]
  · rename_i hneg
    have hi : (lastI (bentL ext l t) l l.length).toNat < l.length := by omega
    rw [List.getElem?_eq_getElem hi]
    cases hn : l[(lastI (bentL ext l t) l l.length).toNat + 1]? with
    | none =>
      dsimp only
      rw [h _ (List.getElem_mem hi)]
    | some s' =>
      dsimp only
      rw [h _ (List.getElem_mem hi), h s' (List.mem_of_getElem? hn)]
      exact mixP_self (pre_ok hp)
/- STOPS OF ONE COLOUR -/
noncomputable section
def colV (n : Int) : Px := ⟨pickI n 256, pickI (Int.tdiv n 256) 256, pickI (Int.tdiv n 7) 256, alphaI n⟩
def reC (p : Px) (s : Stop) : Stop := ⟨s.off, .int .i64 p.r, .int .i64 p.g, .int .i64 p.b, .int .i64 p.a⟩
def reCs (p : Px) (m : Nat) (l : List Stop) : List Stop := (l.take m).map (reC p) ++ l.drop m
end
theorem colV_ok (n : Int) : (colV n).ok := by
  have a := pickI_lt (n := n) (m := 256) (by omega)
  have b := pickI_lt (n := Int.tdiv n 256) (m := 256) (by omega)
  have c := pickI_lt (n := Int.tdiv n 7) (m := 256) (by omega)
  have d := pickI_lt (n := Int.tdiv n 3) (m := 256) (by omega)
  refine ⟨⟨a.1, ?_⟩, ⟨b.1, ?_⟩, ⟨c.1, ?_⟩, ?_⟩
  · show pickI n 256 ≤ 255; omega
  · show pickI (Int.tdiv n 256) 256 ≤ 255; omega
  · show pickI (Int.tdiv n 7) 256 ≤ 255; omega
  · show by8 (alphaI n)
    unfold alphaI by8
    split <;> omega
theorem pxD_v {s : Stop} {p : Px} (h : s.v = p.v) (hp : p.ok) : pxD s = p := by
  unfold pxD
  rw [h, pxOf_v hp]
  rfl
theorem good_v {s : Stop} {p : Px} (h : s.v = p.v) (hp : p.ok) (hin : inB s.off) : goodS s := ⟨by rw [h, pxOf_v hp]; rfl, hin⟩
theorem reC_v {p : Px} {s : Stop} : (reC p s).v = p.v := rfl
theorem reCs_zero {p : Px} {l : List Stop} : reCs p 0 l = l := rfl
theorem reCs_all {p : Px} {l : List Stop} : reCs p l.length l = l.map (reC p) := by
  unfold reCs
  rw [List.take_length, List.drop_length, List.append_nil]
theorem reCs_len {p : Px} {m : Nat} {l : List Stop} : (reCs p m l).length = l.length := by
  unfold reCs
  simp
  omega
theorem reCs_at {p : Px} {m : Nat} {l : List Stop} (h : m < l.length) : (reCs p m l)[m]? = l[m]? := by
  unfold reCs
  rw [List.getElem?_append_right (by simp; omega), List.getElem?_drop]
  congr 1
  simp
  omega
theorem reCs_succ {p : Px} {m : Nat} {l : List Stop} {s : Stop} (h : l[m]? = some s) : (reCs p m l).set m (reC p s) = reCs p (m + 1) l := by
  have hm := (List.getElem?_eq_some_iff.1 h).1
  apply List.ext_getElem?
  intro k
  rw [List.getElem?_set, reCs_len]
  unfold reCs
  by_cases e : m = k
  · subst e
    rw [if_pos rfl, if_pos hm, List.getElem?_append_left (by simp; omega), List.getElem?_map, List.getElem?_take_of_lt (by omega), h]
    rfl
  · rw [if_neg e]
    by_cases lt : k < m
    · rw [List.getElem?_append_left (by simp; omega), List.getElem?_append_left (by simp; omega), List.getElem?_map, List.getElem?_map, List.getElem?_take_of_lt (by omega), List.getElem?_take_of_lt (by omega)]
    · rw [List.getElem?_append_right (by simp; omega), List.getElem?_append_right (by simp; omega), List.getElem?_drop, List.getElem?_drop]
      congr 1
      simp
      omega
theorem enc_col : ∀ {l : List Stop} {j : Nat} {s : Stop} {p : Px}, l[j]? = some s → splice (j * 5 + 1) [.int .i64 p.r, .int .i64 p.g, .int .i64 p.b, .int .i64 p.a] (enc l) = some (enc (l.set j (reC p s)))
  | [], j, s, p, h => by simp at h
  | t :: l, 0, s, p, h => by
    simp at h
    subst h
    show splice 1 _ (.int .i64 t.off :: t.a :: t.b :: t.c :: t.d :: enc l) = _
    simp only [splice, over, over_nil]
    rfl
  | t :: l, j + 1, s, p, h => by
    rw [five]
    have ih := enc_col (l := l) (j := j) (s := s) (p := p) (by simpa using h)
    show splice (j * 5 + 1 + 1 + 1 + 1 + 1 + 1) _ (.int .i64 t.off :: t.a :: t.b :: t.c :: t.d :: enc l) = _
    simp only [splice] at ih ⊢
    rw [ih]
    rfl
theorem store_col {os : List (Option AObj)} {i j : Nat} {l : List Stop} {s : Stop} {p : Px} (h : (os[i]?).join = some (.cells true (enc l))) (hs : l[j]? = some s) :
    storeV (few os) 4 (.ptr (some (i, j * 5 + 1))) (some [.int .i64 p.r, .int .i64 p.g, .int .i64 p.b, .int .i64 p.a]) = some (V.undef, few (os.set i (some (.cells true (enc (l.set j (reC p s))))))) := by
  rw [store_fewC, ownAt_eq, h]
  show (if [V.int .i64 p.r, .int .i64 p.g, .int .i64 p.b, .int .i64 p.a].length = 4 then (match splice (j * 5 + 1) [V.int .i64 p.r, .int .i64 p.g, .int .i64 p.b, .int .i64 p.a] (enc l) with | some r => some (V.undef, few (os.set i (some (.cells true r)))) | none => none) else none) = _
  rw [if_pos (show [V.int .i64 p.r, .int .i64 p.g, .int .i64 p.b, .int .i64 p.a].length = 4 from rfl), enc_col hs]
theorem eq_px {p : Px} : eqV (.parts [(0, (1, (false, .int))), (1, (1, (false, .int))), (2, (1, (false, .int))), (3, (1, (false, .int)))]) p.v p.v = some true := by
  unfold Px.v
  simp
theorem bin_neqP {p : Px} : binV .neq (.val (.parts [(0, (1, (false, .int))), (1, (1, (false, .int))), (2, (1, (false, .int))), (3, (1, (false, .int)))])) p.v p.v = some (.bool false) := by
  have h := eq_px (p := p)
  unfold Px.v at h ⊢
  rw [bin_agg, h]
  rfl
theorem bin_eqlP {p : Px} : binV .eql (.val (.parts [(0, (1, (false, .int))), (1, (1, (false, .int))), (2, (1, (false, .int))), (3, (1, (false, .int)))])) p.v p.v = some (.bool true) := by
  have h := eq_px (p := p)
  unfold Px.v at h ⊢
  rw [bin_agg, h]
  rfl

end Go.Vabs.Ln
