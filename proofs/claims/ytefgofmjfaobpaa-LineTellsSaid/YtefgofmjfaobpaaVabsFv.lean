/-
  The colour of a place on a line.
-/
import Derived.Test.YtefgofmjfaobpaaVabsFt
namespace Go.Vabs.Ln
set_option linter.unusedVariables false
set_option linter.unusedSimpArgs false
set_option maxRecDepth 10000
attribute [local simp] wp_skip wp_ret wp_exit wp_reg wp_seq wp_cond wp_block thenQ_normal thenQ_ret thenQ_exit blockQ_normal blockQ_ret blockQ_exit wpCond_true wpCond_false wpOps_nil wpVal_some wpGuard_true wpGuard_false wpOps_guard wpOps_cons
  put_at put_no ev_c ev_slot posEq_h posEq_o posEq_i posEq_ho posEq_hi posEq_oh posEq_ih posEq_oi posEq_io sel_true sel_false
  okv_some step_mv step_call step_pick pickV_bool step_bin bin_add bin_sub bin_mul bin_eql bin_neq bin_lss bin_leq bin_gtr bin_geq bin_eqb bin_neb bin_eqs bin_nes step_un un_not un_neg step_len len_slice len_str len_const step_extract extractV nth step_convInt conv_int step_convStr step_slice step_idxAddr natOf_nat step_load step_index step_field step_fieldAddr step_build step_minmax
  step_alloc step_bslice bsliceV_some newV_some step_store step_append boolIs_b boolIs_t finQ_ret finQ_normal ressE_nil ressE_cons resE_tmp consO_some initE_nil initE_cons pos_0 pos_1 pos_2 pos_3 pos_4 pos_5 pos_6 pos_7 pos_8 plain_bool plain_int plain_str plain_ptr plain_slice plain_map plain_agg plain_func plain_nilFunc V.undef oneOf_one oneOf_two ble_self bin_agg eqV_parts eqV_int eqV_bool eqV_str eqParts_nil eqParts_cons eqC_true eqC_false eqO_some eqR_eql eqR_neq
attribute [local simp] wp_dreg wpDs_nil wpDs_cons wantedE_none wantedE_some wpDGuard_true wpDGuard_lim wpDGuard_false wpDLim_true wpDVal_free wpDVal_lim back_limited next_limited foot_convStr foot_load foot_store foot_alloc foot_box foot_bslice foot_append foot_call okAll_nil okAll_cons pastsOf nthP
  wpRounds_succ roundQ_normal roundQ_ret roundQ_exit cells_int cells_bool cells_str cells_agg cells_slice few_alloc lawOut_nil lawOut_one step_box newV alloc_dir backv back_back back_few next_back few_next resE_cell first_fewC grow_none grow_some cellsAt_zero cellsAt_succ ownAt_zero ownAt_succ loadC_some storeC_some firstC_some growC_some load_d convStr_d convStr_d0 store_d append_d2 append_d1 first_d2 first_d1 cut takeN nth splice over idOf okPair_dd okPair_dc okPair_cd okPair_cc anyIn_nil anyIn_same meets_nil meets_nil' meets_cons mem_nil mem_cons nbeq_dec blt_dec ble_dec fill repN firstNo lenOf fieldAddrV fieldV part natOf_zero natOf_one
open Go.Vabs.Ph Go.Vabs.Fl
section
variable {os t : List (Option AObj)} {x y : Option AObj} {i o n : Nat} {a : Bool} {cs vs : List V} {l : List Stop} {j : Nat} {s : Stop}
theorem load_pre (h : i < os.length) : loadV (few (os ++ t)) a n (.ptr (some (i, o))) = loadV (few os) a n (.ptr (some (i, o))) := by
  rw [load_fewC, load_fewC, cellsAt_eq, cellsAt_eq, List.getElem?_append_left h]
theorem load_new {own : Bool} : loadV (few (os ++ some (.cells own cs) :: t)) a n (.ptr (some (os.length, o))) = loadC a n o (some cs) := by
  rw [load_fewC, cellsAt_eq, List.getElem?_append_right (Nat.le_refl _), Nat.sub_self]
  rfl
theorem load_new1 {own : Bool} : loadV (few (os ++ x :: some (.cells own cs) :: t)) a n (.ptr (some (os.length + 1, o))) = loadC a n o (some cs) := by
  rw [load_fewC, cellsAt_eq, List.getElem?_append_right (by omega), show os.length + 1 - os.length = 1 from by omega]
  rfl
theorem splice_all : ∀ {vs cs : List V}, vs.length = cs.length → splice 0 vs cs = some vs
  | [], [], _ => rfl
  | v :: vs, c :: cs, h => by
    have ih := splice_all (vs := vs) (cs := cs) (by simpa using h)
    show (match over vs cs with | some r => some (v :: r) | none => none) = _
    have ih : over vs cs = some vs := ih
    rw [ih]
  | [], _ :: _, h => by cases h
  | _ :: _, [], h => by cases h
theorem set_app {z : Option AObj} : (os ++ x :: t).set os.length z = os ++ z :: t := by
  rw [List.set_append_right _ _ (Nat.le_refl _), Nat.sub_self]
  rfl
theorem set_app1 {z : Option AObj} : (os ++ x :: y :: t).set (os.length + 1) z = os ++ x :: z :: t := by
  rw [List.set_append_right _ _ (by omega), show os.length + 1 - os.length = 1 from by omega]
  rfl
theorem store_new (h1 : vs.length = n) (h2 : cs.length = n) : storeV (few (os ++ some (.cells true cs) :: t)) n (.ptr (some (os.length, 0))) (some vs) = some (V.undef, few (os ++ some (.cells true vs) :: t)) := by
  rw [store_fewC, ownAt_eq, List.getElem?_append_right (Nat.le_refl _), Nat.sub_self]
  show storeC _ n _ 0 vs (some cs) = _
  rw [storeC_some, if_pos h1, splice_all (by omega)]
  dsimp only
  rw [set_app]
theorem store_new1 (h1 : vs.length = n) (h2 : cs.length = n) : storeV (few (os ++ x :: some (.cells true cs) :: t)) n (.ptr (some (os.length + 1, 0))) (some vs) = some (V.undef, few (os ++ x :: some (.cells true vs) :: t)) := by
  rw [store_fewC, ownAt_eq, List.getElem?_append_right (by omega), show os.length + 1 - os.length = 1 from by omega]
  show storeC _ n _ 0 vs (some cs) = _
  rw [storeC_some, if_pos h1, splice_all (by omega)]
  dsimp only
  rw [set_app1]
theorem col_cut : ∀ {l : List Stop} {j : Nat} {s : Stop}, l[j]? = some s → cut (j * 5 + 1) 4 (enc l) = some [s.a, s.b, s.c, s.d]
  | [], j, s, h => by simp at h
  | t :: l, 0, s, h => by
    simp at h
    subst h
    rfl
  | t :: l, j + 1, s, h => by
    rw [five]
    exact col_cut (l := l) (j := j) (by simpa using h)
theorem load_col {own : Bool} (h : (os[i]?).join = some (.cells own (enc l))) (hs : l[j]? = some s) : loadV (few os) true 4 (.ptr (some (i, j * 5 + 1))) = some (.agg [s.a, s.b, s.c, s.d]) := by
  rw [load_fewC, cellsAt_eq, h]
  show (cut (j * 5 + 1) 4 (enc l)).map V.agg = _
  rw [col_cut hs]
  rfl
end
/- THE COLOUR OF A PLACE -/
noncomputable section
def Stop.v (s : Stop) : V := .agg [s.a, s.b, s.c, s.d]
def pxD (s : Stop) : Px := (pxOf s.v).getD ⟨0, 0, 0, 0⟩
def lastI (u : Int) (l : List Stop) : Nat → Int
  | 0 => -1
  | k + 1 => match l[k]? with | some s => if s.off ≤ u then (k : Int) else lastI u l k | none => lastI u l k
def bentL (ext : Int) (l : List Stop) (t : Int) : Int := match l[0]?, l[l.length - 1]? with
  | some a, some b => bentV ext a.off (b.off - a.off) (clip t)
  | _, _ => clip t
def colAt (l : List Stop) (u i : Int) : Px :=
  if i < 0 then (match l[0]? with | some a => (pxD a).pre | none => ⟨0, 0, 0, 0⟩)
  else match l[i.toNat]?, l[i.toNat + 1]? with
    | some s, some s' => mixP (pxD s).pre (pxD s').pre (unit16 (divI (u - s.off) (s'.off - s.off)))
    | some s, none => (pxD s).pre
    | _, _ => ⟨0, 0, 0, 0⟩
def atP (ext : Int) (l : List Stop) (t : Int) : Px := if l = [] then ⟨0, 0, 0, 0⟩ else colAt l (bentL ext l t) (lastI (bentL ext l t) l l.length)
def goodS (s : Stop) : Prop := (pxOf s.v).isSome = true ∧ inB s.off
def firstLast (l : List Stop) : Prop := match l[0]?, l[l.length - 1]? with | some a, some b => a.off ≤ b.off | _, _ => True
open Classical in
def atS : List V → Bool → Nat → List V → Option Ans
  | [.int .i64 ext, .int .i64 t], _, _, cs => match stopsOf cs with
    | some l => if l.length < 20 ∧ (∀ s ∈ l, goodS s) ∧ firstLast l then some ([], fun _ => (atP ext l t).v) else none
    | none => none
  | _, _, _, _ => none
end
theorem good_px {s : Stop} (h : goodS s) : s.v = (pxD s).v ∧ (pxD s).ok := by
  obtain ⟨p, hp⟩ := Option.isSome_iff_exists.1 h.1
  obtain ⟨h1, h2⟩ := pxOf_some hp
  unfold pxD
  rw [hp]
  exact ⟨h1, h2⟩
theorem lastI_in {u : Int} {l : List Stop} : ∀ k, k ≤ l.length → -1 ≤ lastI u l k ∧ lastI u l k < k
  | 0, _ => ⟨Int.le_refl _, by show (-1 : Int) < 0; omega⟩
  | k + 1, h => by
    have ih := lastI_in (u := u) (l := l) k (by omega)
    unfold lastI
    split
    · split <;> omega
    · omega
theorem lastI_off {u : Int} {l : List Stop} {s : Stop} : ∀ {k i : Nat}, lastI u l k = (i : Int) → l[i]? = some s → s.off ≤ u
  | 0, i, h, _ => by have h : (-1 : Int) = (i : Int) := h; omega
  | k + 1, i, h, hs => by
    unfold lastI at h
    split at h
    · rename_i s' hs'
      split at h
      · have : k = i := by omega
        subst this
        rw [hs] at hs'
        cases hs'
        assumption
      · exact lastI_off h hs
    · exact lastI_off h hs
theorem lastI_next {u : Int} {l : List Stop} {s : Stop} : ∀ {k j : Nat}, lastI u l k < (j : Int) → j < k → l[j]? = some s → u < s.off
  | 0, j, _, h, _ => by omega
  | k + 1, j, h, hj, hs => by
    unfold lastI at h
    split at h
    · rename_i s' hs'
      split at h
      · omega
      · rename_i hlt
        by_cases e : j = k
        · subst e
          rw [hs] at hs'
          cases hs'
          omega
        · exact lastI_next h (by omega) hs
    · rename_i hn
      by_cases e : j = k
      · subst e
        rw [hs] at hn
        cases hn
      · exact lastI_next h (by omega) hs
theorem bentV_in {ext f n t : Int} (hf : inB f) (hfn : inB (f + n)) (hn : 0 ≤ n) : inB (bentV ext f n (clip t)) := by
  have hc := clip_le t
  unfold inB at *
  unfold bentV
  split
  · omega
  · rename_i h0
    have a := repeat_in (f := f) (n := n) (t := clip t) (by omega)
    have b := reflect_in (f := f) (n := n) (t := clip t) (by omega)
    split
    · omega
    · split <;> omega

end Go.Vabs.Ln
