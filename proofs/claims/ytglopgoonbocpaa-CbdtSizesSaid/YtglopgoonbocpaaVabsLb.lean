/-
  The statements of chapter 2: what their own functions answer.
-/
import Derived.Test.YtglopgoonbocpaaVabsZj
import Derived.Test.YtglopgoonbocpaaVabsZd
namespace Go.Vabs.L2
set_option linter.unusedVariables false
set_option linter.unusedSimpArgs false
set_option maxRecDepth 10000
attribute [local simp] wp_skip wp_ret wp_exit wp_reg wp_seq wp_cond wp_block thenQ_normal thenQ_ret thenQ_exit blockQ_normal blockQ_ret blockQ_exit wpCond_true wpCond_false wpOps_nil wpVal_some wpGuard_true wpGuard_false wpOps_guard wpOps_cons
  put_at put_no ev_c ev_slot posEq_h posEq_o posEq_i posEq_ho posEq_hi posEq_oh posEq_ih posEq_oi posEq_io sel_true sel_false
  okv_some step_mv step_call step_pick pickV_bool step_bin bin_add bin_sub bin_mul bin_eql bin_neq bin_lss bin_leq bin_gtr bin_geq bin_eqb bin_neb bin_eqs bin_nes step_un un_not un_neg step_len len_slice len_str len_const step_extract extractV nth step_convInt conv_int step_convStr step_slice step_idxAddr natOf_nat step_load step_index step_field step_fieldAddr step_build step_minmax
  step_alloc step_bslice bsliceV_some newV_some step_store step_append boolIs_b boolIs_t finQ_ret finQ_normal ressE_nil ressE_cons resE_tmp consO_some initE_nil initE_cons pos_0 pos_1 pos_2 pos_3 pos_4 pos_5 pos_6 pos_7 pos_8 plain_bool plain_int plain_str plain_ptr plain_slice plain_map plain_agg plain_func plain_nilFunc V.undef oneOf_one oneOf_two ble_self
open Go.Vabs.Pk Go.Vabs.Ph

/- PARTS -/
theorem enter_ex {call : CallT} {lf n : Nat} {c : ACode} {rs : List ARes} {args : List V} {st : St} {v : V} (h : wp call lf c (initE args 0 env0) st (finQ rs fun u _ => u = v)) :
    ∃ s1, enterF call lf args st ⟨n, c, rs⟩ = some (v, s1) := by
  obtain ⟨u, s, h1, rfl⟩ := enter_wp (n := n) h
  exact ⟨s, h1⟩
end Go.Vabs.L2

namespace Go.Vabs.Sa
set_option linter.unusedVariables false
set_option linter.unusedSimpArgs false
set_option maxRecDepth 10000
def Index_c : AFunc := AFunc.mk 19 (.seq (.reg [AOper.mk (some (.i (.o .h))) (.mv (.c (.int .i64 (.ofNat 0)))) none]) (.seq (.seq (.reg [AOper.mk (some (.o (.o (.o .h)))) (.len .slice (.t .h)) none, AOper.mk (some (.i (.o (.o .h)))) (.mv (.c (.int .i64 (.ofNat 0)))) none]) (.block 0 (.loop (.seq (.reg [AOper.mk (some (.o (.i (.o .h)))) (.bin .lss (.val .int) (.t (.i (.o (.o .h)))) (.t (.o (.o (.o .h))))) none]) (.seq (.cond (.t (.o (.i (.o .h)))) .skip (.exit 0)) (.seq (.block 1 (.seq (.reg [AOper.mk (some (.o (.i .h))) (.mv (.t (.i (.o (.o .h))))) none]) (.seq (.reg [AOper.mk (some (.i (.i (.i .h)))) (.idxAddr (.slice 1) (.t .h) (.t (.o (.i .h)))) none, AOper.mk (some (.o (.o (.o (.o .h))))) (.load false 1 (.t (.i (.i (.i .h))))) none, AOper.mk (some (.i (.o (.o (.o .h))))) (.bin .eql (.val .str) (.t (.o .h)) (.t (.o (.o (.o (.o .h)))))) none]) (.cond (.t (.i (.o (.o (.o .h))))) (.seq (.reg [AOper.mk (some (.i (.o .h))) (.mv (.t (.o (.i .h)))) none]) .ret) .skip)))) (.reg [AOper.mk (some (.i (.i (.o (.o .h))))) (.bin .add (.val .int) (.t (.i (.o (.o .h)))) (.c (.int .i64 (.ofNat 1)))) none, AOper.mk (some (.i (.o (.o .h)))) (.mv (.t (.i (.i (.o (.o .h)))))) none]))))))) (.seq (.reg [AOper.mk (some (.i (.o .h))) (.mv (.c (.int .i64 (.negSucc 0)))) none]) .ret))) [.tmp (.i (.o .h))]
def Contains_c (n_Index : Nat) : AFunc := AFunc.mk 9 (.seq (.reg [AOper.mk (some (.i (.o .h))) (.mv (.c (.bool false))) none]) (.seq (.reg [AOper.mk (some (.o (.o (.o .h)))) (.call n_Index [.t .h, .t (.o .h)]) none, AOper.mk (some (.i (.o (.o .h)))) (.bin .geq (.val .int) (.t (.o (.o (.o .h)))) (.c (.int .i64 (.ofNat 0)))) none, AOper.mk (some (.i (.o .h))) (.mv (.t (.i (.o (.o .h))))) none]) .ret)) [.tmp (.i (.o .h))]
attribute [local simp] wp_skip wp_ret wp_exit wp_reg wp_seq wp_cond wp_block thenQ_normal thenQ_ret thenQ_exit blockQ_normal blockQ_ret blockQ_exit wpCond_true wpCond_false wpOps_nil wpVal_some wpGuard_true wpGuard_false wpOps_guard wpOps_cons
  put_at put_no ev_c ev_slot posEq_h posEq_o posEq_i posEq_ho posEq_hi posEq_oh posEq_ih posEq_oi posEq_io sel_true sel_false
  okv_some step_mv step_call step_pick pickV_bool step_bin bin_add bin_sub bin_mul bin_eql bin_neq bin_lss bin_leq bin_gtr bin_geq bin_eqb bin_neb bin_eqs bin_nes step_un un_not un_neg step_len len_slice len_str len_const step_extract extractV nth step_convInt conv_int step_convStr step_slice step_idxAddr natOf_nat step_load step_index step_field step_fieldAddr step_build step_minmax
  step_alloc step_bslice bsliceV_some newV_some step_store step_append boolIs_b boolIs_t finQ_ret finQ_normal ressE_nil ressE_cons resE_tmp consO_some initE_nil initE_cons pos_0 pos_1 pos_2 pos_3 pos_4 pos_5 pos_6 pos_7 pos_8 plain_bool plain_int plain_str plain_ptr plain_slice plain_map plain_agg plain_func plain_nilFunc V.undef oneOf_one oneOf_two ble_self
open Go.Vabs.Pk Go.Vabs.Ph
attribute [local simp] step_nilchk nilchk_ptr cells_int cells_bool cells_str cells_slice cells_ptr few_alloc
/-- Strings that a slice shows. -/
noncomputable def strsV (ts : List (List Nat)) : List V := ts.map V.str
noncomputable def strsAt (st : St) (v : V) (ts : List (List Nat)) : Prop :=
  match v with
  | .slice none 1 0 0 _ => ts = []
  | .slice (some (i, o)) 1 n c _ => n ≤ c ∧ n = ts.length ∧ ∃ own cs, st.get i = some (.cells own cs) ∧ o + n ≤ cs.length ∧ (cs.drop o).take n = strsV ts
  | .slice none 0 0 0 _ => ts = []
  | _ => False
theorem strsV_len {ts : List (List Nat)} : (strsV ts).length = ts.length := by simp [strsV]
theorem strsV_at {ts : List (List Nat)} {k : Nat} : (strsV ts)[k]? = ts[k]?.map V.str := by simp [strsV]
theorem load_get {st : St} {i o : Nat} {own : Bool} {cs : List V} (h : st.get i = some (.cells own cs)) : loadV st false 1 (.ptr (some (i, o))) = cs[o]? := by
  show st.load1 i o = _
  unfold St.load1
  rw [h]
  exact nth_eq
noncomputable def idxOf (t : List Nat) : List (List Nat) → Nat → Int
  | [], _ => -1
  | x :: l, k => if t = x then (k : Int) else idxOf t l (k + 1)
theorem idxOf_drop {t : List Nat} {ts : List (List Nat)} {k : Nat} {x : List Nat} (h : ts[k]? = some x) : idxOf t (ts.drop k) k = if t = x then (k : Int) else idxOf t (ts.drop (k + 1)) (k + 1) := by
  obtain ⟨hk, he⟩ := List.getElem?_eq_some_iff.1 h
  rw [List.drop_eq_getElem_cons hk, he]
  rfl
theorem Index_run {call : CallT} {lf : Nat} {st : St} {a : Option (Nat × Nat)} {e n c : Nat} {f : Bool} {ts : List (List Nat)} {t : List Nat} (h : strsAt st (.slice a e n c f) ts) (hn : ts.length < lf) (hs : ts.length < 4611686018427387904) :
    enterF call lf [.slice a e n c f, .str t] st Index_c = some (.int .i64 (idxOf t ts 0), st) := by
  refine enter_eq ?_
  have hlen : n = ts.length := by
    unfold strsAt at h
    split at h
    · rename_i h1; cases h1; rw [h]; rfl
    · rename_i h1; cases h1; exact h.2.1
    · rename_i h1; cases h1; rw [h]; rfl
    · exact h.elim
  simp (disch := omega)
  refine wp_loop (fun k s st' => st' = st ∧ ∃ i, i + k = ts.length ∧ s .h = .slice a e n c f ∧ s (.o .h) = .str t ∧ s (.o (.o (.o .h))) = .int .i64 (ts.length : Int) ∧ s (.i (.o (.o .h))) = .int .i64 (i : Int) ∧ idxOf t ts 0 = idxOf t (ts.drop i) i) ts.length ?_ hn ?_
  · refine ⟨rfl, 0, by omega, ?_, ?_, ?_, ?_, ?_⟩ <;> simp [hlen]
  · rintro k s st' ⟨rfl, i, hi, s1, s2, s3, s4, s5⟩
    cases k with
    | zero =>
      have hl : i = ts.length := by omega
      subst hl
      rw [List.drop_length] at s5
      simp [s1, s2, s3, s4, s5, idxOf]
    | succ k =>
      have hlt : i < ts.length := by omega
      obtain ⟨x, hx⟩ : ∃ x, ts[i]? = some x := ⟨_, List.getElem?_eq_getElem hlt⟩
      unfold strsAt at h
      split at h
      · rename_i h1; rw [h] at hlt; simp at hlt
      · rename_i j o n' c' f' h1
        cases h1
        obtain ⟨hnc, hnl, own, cs, hg, hm, hcs⟩ := h
        have hld : loadV st' false 1 (.ptr (some (j, o + i))) = some (.str x) := by
          rw [load_get hg]
          have : ((cs.drop o).take n)[i]? = some (.str x) := by rw [hcs, strsV_at, hx]; rfl
          rw [List.getElem?_take_of_lt (by omega), List.getElem?_drop] at this
          exact this
        rw [idxOf_drop hx] at s5
        by_cases hc : t = x
        · subst hc
          rw [if_pos rfl] at s5
          simp (disch := omega) [s1, s2, s3, s4, s5, hlt, natOf_int, idxAddr_slice, hld]
        · rw [if_neg hc] at s5
          simp (disch := omega) [s1, s2, s3, s4, hlt, natOf_int, idxAddr_slice, hld, hc, wrap_i]
          exact ⟨k, by omega, i + 1, by omega, by simp, s5⟩
      · rename_i h1; rw [h] at hlt; simp at hlt
      · exact h.elim
theorem idxOf_neg {t : List Nat} : ∀ (ts : List (List Nat)) (k : Nat), (0 ≤ idxOf t ts k ↔ t ∈ ts)
  | [], k => by simp [idxOf]
  | x :: l, k => by
    unfold idxOf
    split
    · rename_i h; subst h; simp
    · rename_i h; rw [idxOf_neg l (k + 1)]; simp [h]
def IndexF (lf : Nat) (call : CallT) (g : Nat) : Prop := ∀ st a e n c f ts t, strsAt st (.slice a e n c f) ts → ts.length < lf → ts.length < 4611686018427387904 → call g [.slice a e n c f, .str t] st = some (.int .i64 (idxOf t ts 0), st)
def ContF (lf : Nat) (call : CallT) (g : Nat) : Prop := ∀ st a e n c f ts t, strsAt st (.slice a e n c f) ts → ts.length < lf → ts.length < 4611686018427387904 → call g [.slice a e n c f, .str t] st = some (.bool (decide (t ∈ ts)), st)
theorem IndexF.code {base : CallT} {g lf : Nat} : IndexF lf (withF base g lf Index_c) g := fun st a e n c f ts t h1 h2 h3 => by rw [withF_same]; exact Index_run h1 h2 h3
theorem IndexF.withF {lf : Nat} {call : CallT} {n g lf' : Nat} {fn : AFunc} (h : IndexF lf call n) (hne : n ≠ g) : IndexF lf (Vabs.withF call g lf' fn) n := fun st a e m c f ts t h1 h2 h3 => by rw [withF_other hne]; exact h st a e m c f ts t h1 h2 h3
theorem ContF.withF {lf : Nat} {call : CallT} {n g lf' : Nat} {fn : AFunc} (h : ContF lf call n) (hne : n ≠ g) : ContF lf (Vabs.withF call g lf' fn) n := fun st a e m c f ts t h1 h2 h3 => by rw [withF_other hne]; exact h st a e m c f ts t h1 h2 h3
theorem ContF.other {lf : Nat} {call : CallT} {n g : Nat} {l : List V → St → Option (V × St)} (h : ContF lf call n) (hne : n ≠ g) : ContF lf (withL call g l) n := fun st a e m c f ts t h1 h2 h3 => by rw [withL_other hne]; exact h st a e m c f ts t h1 h2 h3
theorem Contains_run {call : CallT} {lf lf' ni : Nat} (hi : IndexF lf call ni) {st : St} {a : Option (Nat × Nat)} {e n c : Nat} {f : Bool} {ts : List (List Nat)} {t : List Nat} (h : strsAt st (.slice a e n c f) ts) (hn : ts.length < lf) (hs : ts.length < 4611686018427387904) :
    enterF call lf' [.slice a e n c f, .str t] st (Contains_c ni) = some (.bool (decide (t ∈ ts)), st) := by
  refine enter_eq ?_
  simp [hi _ _ _ _ _ _ _ _ h hn hs, idxOf_neg]
theorem ContF.code {base : CallT} {g lf lf' ni : Nat} (hi : IndexF lf base ni) : ContF lf (Vabs.withF base g lf' (Contains_c ni)) g := fun st a e n c f ts t h1 h2 h3 => by rw [withF_same]; exact Contains_run hi h1 h2 h3

end Go.Vabs.Sa
