/-
  Slices of strings: where one stands, whether it is there.
-/
import Derived.Test.YtkcjhakjelidgaaVabsZj
import Derived.Test.YtkcjhakjelidgaaVabsPk
import Derived.Test.YtkcjhakjelidgaaVabsZd
namespace Go.Vabs.Sa
set_option linter.unusedVariables false
set_option linter.unusedSimpArgs false
set_option maxRecDepth 10000
def Index_c : AFunc := AFunc.mk 19 (.seq (.reg [AOper.mk (some (.i (.o .h))) (.mv (.c (.int .i64 (.ofNat 0)))) none]) (.seq (.seq (.reg [AOper.mk (some (.o (.o (.o .h)))) (.len .slice (.t .h)) none, AOper.mk (some (.i (.o (.o .h)))) (.mv (.c (.int .i64 (.ofNat 0)))) none]) (.block 0 (.loop (.seq (.reg [AOper.mk (some (.o (.i (.o .h)))) (.bin .lss (.val .int) (.t (.i (.o (.o .h)))) (.t (.o (.o (.o .h))))) none]) (.seq (.cond (.t (.o (.i (.o .h)))) .skip (.exit 0)) (.seq (.block 1 (.seq (.reg [AOper.mk (some (.o (.i .h))) (.mv (.t (.i (.o (.o .h))))) none]) (.seq (.reg [AOper.mk (some (.i (.i (.i .h)))) (.idxAddr (.slice 1) (.t .h) (.t (.o (.i .h)))) none, AOper.mk (some (.o (.o (.o (.o .h))))) (.load false 1 (.t (.i (.i (.i .h))))) none, AOper.mk (some (.i (.o (.o (.o .h))))) (.bin .eql (.val .str) (.t (.o .h)) (.t (.o (.o (.o (.o .h)))))) none]) (.cond (.t (.i (.o (.o (.o .h))))) (.seq (.reg [AOper.mk (some (.i (.o .h))) (.mv (.t (.o (.i .h)))) none]) .ret) .skip)))) (.reg [AOper.mk (some (.i (.i (.o (.o .h))))) (.bin .add (.val .int) (.t (.i (.o (.o .h)))) (.c (.int .i64 (.ofNat 1)))) none, AOper.mk (some (.i (.o (.o .h)))) (.mv (.t (.i (.i (.o (.o .h)))))) none]))))))) (.seq (.reg [AOper.mk (some (.i (.o .h))) (.mv (.c (.int .i64 (.negSucc 0)))) none]) .ret))) [.tmp (.i (.o .h))]
def Contains_c (n_Index : Nat) : AFunc := AFunc.mk 9 (.seq (.reg [AOper.mk (some (.i (.o .h))) (.mv (.c (.bool false))) none]) (.seq (.reg [AOper.mk (some (.o (.o (.o .h)))) (.call n_Index [.t .h, .t (.o .h)]) none, AOper.mk (some (.i (.o (.o .h)))) (.bin .geq (.val .int) (.t (.o (.o (.o .h)))) (.c (.int .i64 (.ofNat 0)))) none, AOper.mk (some (.i (.o .h))) (.mv (.t (.i (.o (.o .h))))) none]) .ret)) [.tmp (.i (.o .h))]
attribute [local simp] wp_skip wp_ret wp_exit wp_reg wp_seq wp_cond wp_block thenQ_normal thenQ_ret thenQ_exit blockQ_normal blockQ_ret blockQ_exit wpCond_true wpCond_false wpOps_nil wpVal_some wpGuard_true wpGuard_false wpOps_guard wpOps_cons
  put_at put_no ev_c ev_slot posEq_h posEq_o posEq_i posEq_ho posEq_hi posEq_oh posEq_ih posEq_oi posEq_io sel_true sel_false
  okv_some step_mv step_call step_pick pickV_bool step_bin bin_add bin_sub bin_mul bin_eql bin_neq bin_lss bin_leq bin_gtr bin_geq bin_eqb bin_neb bin_eqs bin_nes step_un un_not un_neg step_len len_slice len_str len_const step_extract extractV nth step_convInt conv_int step_convStr step_slice step_idxAddr natOf_nat step_load step_index step_field step_fieldAddr step_build step_minmax
  step_alloc step_bslice bsliceV_some newV_some step_store step_append boolIs_b boolIs_t finQ_ret finQ_normal ressE_nil ressE_cons resE_tmp consO_some initE_nil initE_cons pos_0 pos_1 pos_2 pos_3 pos_4 pos_5 pos_6 pos_7 pos_8 plain_bool plain_int plain_str plain_ptr plain_slice plain_map plain_agg plain_func plain_nilFunc V.undef oneOf_one oneOf_two ble_self
open Go.Vabs.Pk Go.Vabs.Ph
attribute [local simp] step_nilchk nilchk_ptr cells_int cells_bool cells_str cells_slice cells_ptr few_alloc
/-- Strings that a slice shows. -/
noncomputable def strsV (ts : List (List Nat)) : List V := ts.map V.str
noncomputable def strsAt (st : St) (v : V) (ts : List (List Nat)) : Prop :=
  match v with
  | .slice none 1 0 0 _ => ts = []
  | .slice (some (i, o)) 1 n c _ => n ≤ c ∧ n = ts.length ∧ ∃ own cs, st.get i = some (.cells own cs) ∧ o + n ≤ cs.length ∧ (cs.drop o).take n = strsV ts
  | .slice none 0 0 0 _ => ts = []
  | _ => False
theorem strsV_at {ts : List (List Nat)} {k : Nat} : (strsV ts)[k]? = ts[k]?.map V.str := by simp [strsV]
theorem load_get {st : St} {i o : Nat} {own : Bool} {cs : List V} (h : st.get i = some (.cells own cs)) : loadV st false 1 (.ptr (some (i, o))) = cs[o]? := by
  show st.load1 i o = _
  unfold St.load1
  rw [h]
  exact nth_eq
noncomputable def idxOf (t : List Nat) : List (List Nat) → Nat → Int
  | [], _ => -1
  | x :: l, k => if t = x then (k : Int) else idxOf t l (k + 1)
theorem idxOf_drop {t : List Nat} {ts : List (List Nat)} {k : Nat} {x : List Nat} (h : ts[k]? = some x) : idxOf t (ts.drop k) k = if t = x then (k : Int) else idxOf t (ts.drop (k + 1)) (k + 1) := by
  obtain ⟨hk, he⟩ := List.getElem?_eq_some_iff.1 h
  rw [List.drop_eq_getElem_cons hk, he]
  rfl
theorem Index_run {call : CallT} {lf : Nat} {st : St} {a : Option (Nat × Nat)} {e n c : Nat} {f : Bool} {ts : List (List Nat)} {t : List Nat} (h : strsAt st (.slice a e n c f) ts) (hn : ts.length < lf) (hs : ts.length < 4611686018427387904) :
    enterF call lf [.slice a e n c f, .str t] st Index_c = some (.int .i64 (idxOf t ts 0), st) := by
  refine enter_eq ?_
  have hlen : n = ts.length := by
    unfold strsAt at h
    split at h
    · rename_i h1; cases h1; rw [h]; rfl
    · rename_i h1; cases h1; exact h.2.1
    · rename_i h1; cases h1; rw [h]; rfl
    · exact h.elim
  simp (disch := omega)
  refine wp_loop (fun k s st' => st' = st ∧ ∃ i, i + k = ts.length ∧ s .h = .slice a e n c f ∧ s (.o .h) = .str t ∧ s (.o (.o (.o .h))) = .int .i64 (ts.length : Int) ∧ s (.i (.o (.o .h))) = .int .i64 (i : Int) ∧ idxOf t ts 0 = idxOf t (ts.drop i) i) ts.length ?_ hn ?_
  · refine ⟨rfl, 0, by omega, ?_, ?_, ?_, ?_, ?_⟩ <;> simp [hlen]
  · rintro k s st' ⟨rfl, i, hi, s1, s2, s3, s4, s5⟩
    cases k with
    | zero =>
      have hl : i = ts.length := by omega
      subst hl
      rw [List.drop_length] at s5
      simp [s1, s2, s3, s4, s5, idxOf]
    | succ k =>
      have hlt : i < ts.length := by omega
      obtain ⟨x, hx⟩ : ∃ x, ts[i]? = some x := ⟨_, List.getElem?_eq_getElem hlt⟩
      unfold strsAt at h
      split at h
      · rename_i h1; rw [h] at hlt; simp at hlt
      · rename_i j o n' c' f' h1
        cases h1
        obtain ⟨hnc, hnl, own, cs, hg, hm, hcs⟩ := h
        have hld : loadV st' false 1 (.ptr (some (j, o + i))) = some (.str x) := by
          rw [load_get hg]
          have : ((cs.drop o).take n)[i]? = some (.str x) := by rw [hcs, strsV_at, hx]; rfl
          rw [List.getElem?_take_of_lt (by omega), List.getElem?_drop] at this
          exact this
        rw [idxOf_drop hx] at s5
        by_cases hc : t = x
        · subst hc
          rw [if_pos rfl] at s5
          simp (disch := omega) [s1, s2, s3, s4, s5, hlt, natOf_int, idxAddr_slice, hld]
        · rw [if_neg hc] at s5
          simp (disch := omega) [s1, s2, s3, s4, hlt, natOf_int, idxAddr_slice, hld, hc, wrap_i]
          exact ⟨k, by omega, i + 1, by omega, by simp, s5⟩
      · rename_i h1; rw [h] at hlt; simp at hlt
      · exact h.elim
theorem idxOf_neg {t : List Nat} : ∀ (ts : List (List Nat)) (k : Nat), (0 ≤ idxOf t ts k ↔ t ∈ ts)
  | [], k => by simp [idxOf]
  | x :: l, k => by
    unfold idxOf
    split
    · rename_i h; subst h; simp
    · rename_i h; rw [idxOf_neg l (k + 1)]; simp [h]
def IndexF (lf : Nat) (call : CallT) (g : Nat) : Prop := ∀ st a e n c f ts t, strsAt st (.slice a e n c f) ts → ts.length < lf → ts.length < 4611686018427387904 → call g [.slice a e n c f, .str t] st = some (.int .i64 (idxOf t ts 0), st)
def ContF (lf : Nat) (call : CallT) (g : Nat) : Prop := ∀ st a e n c f ts t, strsAt st (.slice a e n c f) ts → ts.length < lf → ts.length < 4611686018427387904 → call g [.slice a e n c f, .str t] st = some (.bool (decide (t ∈ ts)), st)
theorem IndexF.code {base : CallT} {g lf : Nat} : IndexF lf (withF base g lf Index_c) g := fun st a e n c f ts t h1 h2 h3 => by rw [withF_same]; exact Index_run h1 h2 h3
theorem IndexF.withF {lf : Nat} {call : CallT} {n g lf' : Nat} {fn : AFunc} (h : IndexF lf call n) (hne : n ≠ g) : IndexF lf (Vabs.withF call g lf' fn) n := fun st a e m c f ts t h1 h2 h3 => by rw [withF_other hne]; exact h st a e m c f ts t h1 h2 h3
theorem ContF.withF {lf : Nat} {call : CallT} {n g lf' : Nat} {fn : AFunc} (h : ContF lf call n) (hne : n ≠ g) : ContF lf (Vabs.withF call g lf' fn) n := fun st a e m c f ts t h1 h2 h3 => by rw [withF_other hne]; exact h st a e m c f ts t h1 h2 h3
theorem ContF.other {lf : Nat} {call : CallT} {n g : Nat} {l : List V → St → Option (V × St)} (h : ContF lf call n) (hne : n ≠ g) : ContF lf (withL call g l) n := fun st a e m c f ts t h1 h2 h3 => by rw [withL_other hne]; exact h st a e m c f ts t h1 h2 h3
theorem Contains_run {call : CallT} {lf lf' ni : Nat} (hi : IndexF lf call ni) {st : St} {a : Option (Nat × Nat)} {e n c : Nat} {f : Bool} {ts : List (List Nat)} {t : List Nat} (h : strsAt st (.slice a e n c f) ts) (hn : ts.length < lf) (hs : ts.length < 4611686018427387904) :
    enterF call lf' [.slice a e n c f, .str t] st (Contains_c ni) = some (.bool (decide (t ∈ ts)), st) := by
  refine enter_eq ?_
  simp [hi _ _ _ _ _ _ _ _ h hn hs, idxOf_neg]
theorem ContF.code {base : CallT} {g lf lf' ni : Nat} (hi : IndexF lf base ni) : ContF lf (Vabs.withF base g lf' (Contains_c ni)) g := fun st a e n c f ts t h1 h2 h3 => by rw [withF_same]; exact Contains_run hi h1 h2 h3

end Go.Vabs.Sa

namespace Go.Vabs.L2
set_option linter.unusedVariables false
set_option linter.unusedSimpArgs false
set_option maxRecDepth 10000
attribute [local simp] wp_skip wp_ret wp_exit wp_reg wp_seq wp_cond wp_block thenQ_normal thenQ_ret thenQ_exit blockQ_normal blockQ_ret blockQ_exit wpCond_true wpCond_false wpOps_nil wpVal_some wpGuard_true wpGuard_false wpOps_guard wpOps_cons
  put_at put_no ev_c ev_slot posEq_h posEq_o posEq_i posEq_ho posEq_hi posEq_oh posEq_ih posEq_oi posEq_io sel_true sel_false
  okv_some step_mv step_call step_pick pickV_bool step_bin bin_add bin_sub bin_mul bin_eql bin_neq bin_lss bin_leq bin_gtr bin_geq bin_eqb bin_neb bin_eqs bin_nes step_un un_not un_neg step_len len_slice len_str len_const step_extract extractV nth step_convInt conv_int step_convStr step_slice step_idxAddr natOf_nat step_load step_index step_field step_fieldAddr step_build step_minmax
  step_alloc step_bslice bsliceV_some newV_some step_store step_append boolIs_b boolIs_t finQ_ret finQ_normal ressE_nil ressE_cons resE_tmp consO_some initE_nil initE_cons pos_0 pos_1 pos_2 pos_3 pos_4 pos_5 pos_6 pos_7 pos_8 plain_bool plain_int plain_str plain_ptr plain_slice plain_map plain_agg plain_func plain_nilFunc V.undef oneOf_one oneOf_two ble_self
open Go.Vabs.Pk Go.Vabs.Ph

/- PARTS -/
noncomputable def rpartA (bs : List Nat) (x n : Int) (ok : Bool) : Ans :=
  if ok = true then ([newBytes (cutB bs x n)], fun k => .tuple [.slice (some (k, 0)) 1 (cutB bs x n).length (cutB bs x n).length false, .bool true])
  else ([], fun _ => .tuple [.slice none 0 0 0 true, .bool false])
def RPartF (call : CallT) (n_ : Nat) : Prop := ∀ st v bs x n, bytesAt st v = some bs → bs.length ≤ 140737488351232 → (-9223372036854775808 ≤ n ∧ n < 9223372036854775808) → call n_ [v, .int .i64 x, .int .i64 n] st = lawOut (some (rpartA bs x n (thereB bs.length x n))) st
def RFromF (call : CallT) (n_ : Nat) : Prop := ∀ st v bs x, bytesAt st v = some bs → bs.length ≤ 140737488351232 → call n_ [v, .int .i64 x] st = lawOut (some (rpartA bs x (bs.length - x) (thereB bs.length x 0))) st
theorem RPartF.other {call : CallT} {n g : Nat} {l : List V → St → Option (V × St)} (h : RPartF call n) (hne : n ≠ g) : RPartF (withL call g l) n := fun st v bs x m a b c => by rw [withL_other hne]; exact h st v bs x m a b c
theorem RFromF.other {call : CallT} {n g : Nat} {l : List V → St → Option (V × St)} (h : RFromF call n) (hne : n ≠ g) : RFromF (withL call g l) n := fun st v bs x a b => by rw [withL_other hne]; exact h st v bs x a b

end Go.Vabs.L2

namespace Go.Vabs.Sb
set_option linter.unusedVariables false
set_option linter.unusedSimpArgs false
set_option maxRecDepth 10000
attribute [local simp] wp_skip wp_ret wp_exit wp_reg wp_seq wp_cond wp_block thenQ_normal thenQ_ret thenQ_exit blockQ_normal blockQ_ret blockQ_exit wpCond_true wpCond_false wpOps_nil wpVal_some wpGuard_true wpGuard_false wpOps_guard wpOps_cons
  put_at put_no ev_c ev_slot posEq_h posEq_o posEq_i posEq_ho posEq_hi posEq_oh posEq_ih posEq_oi posEq_io sel_true sel_false
  okv_some step_mv step_call step_pick pickV_bool step_bin bin_add bin_sub bin_mul bin_eql bin_neq bin_lss bin_leq bin_gtr bin_geq bin_eqb bin_neb bin_eqs bin_nes step_un un_not un_neg step_len len_slice len_str len_const step_extract extractV nth step_convInt conv_int step_convStr step_slice step_idxAddr natOf_nat step_load step_index step_field step_fieldAddr step_build step_minmax
  step_alloc step_bslice bsliceV_some newV_some step_store step_append boolIs_b boolIs_t finQ_ret finQ_normal ressE_nil ressE_cons resE_tmp consO_some initE_nil initE_cons pos_0 pos_1 pos_2 pos_3 pos_4 pos_5 pos_6 pos_7 pos_8 plain_bool plain_int plain_str plain_ptr plain_slice plain_map plain_agg plain_func plain_nilFunc V.undef oneOf_one oneOf_two ble_self
open Go.Vabs.Pk Go.Vabs.Ph Go.Vabs.Sa
attribute [local simp] step_nilchk nilchk_ptr step_mkmap step_lookup step_mapEntry step_entryStore step_box cells_int cells_bool cells_str cells_slice cells_ptr cells_agg few_alloc lawOut_nil lawOut_one
  wp_dreg wpDs_nil wpDs_cons wantedE_none wantedE_some wpDGuard_true wpDGuard_lim wpDGuard_false wpDLim_true wpDVal_free wpDVal_lim back_limited next_limited limF_dir foot_load foot_store foot_bslice foot_append
/- SLICES, WHETHER THEIR CAPACITY IS KNOWN OR NOT -/
theorem slice_hiF {a : Option (Nat × Nat)} {e n c : Nat} {f : Bool} {k : IntKind} {h : Int} (h0 : 0 ≤ h) (h2 : h ≤ c) (h3 : 0 < c) : sliceOp (.slice e) (.slice a e n c f) none (some (.int k h)) none = some (.slice (shiftA a 0) e h.toNat c f) := by
  have hb : Nat.beq c 0 = false := by
    cases c with
    | zero => omega
    | succ c => rfl
  simp only [sliceOp, bound, natOf_int h0, Nat.beq_refl, Bool.true_or, sel_true, ble_t (show h.toNat ≤ c by omega), Option.isSome_none, Bool.or_false, hb, Bool.false_and, sel_false, Nat.zero_mul, Nat.sub_zero, ble_t (Nat.zero_le _)]
/- THE SPEC -/
/-- What a font's beginning may be. -/
def versL : List (List Nat) := [[0, 1, 0, 0], [79, 84, 84, 79], [116, 114, 117, 101]]
def cnt (bs : List Nat) : Nat := (num bs 4 2).getD 0
def tagB (bs : List Nat) (k : Nat) : List Nat := (bs.drop (12 + 16 * k)).take 4
def offB (bs : List Nat) (k : Nat) : Nat := (num bs ((12 + 16 * k + 8 : Nat) : Int) 4).getD 0
def lenB (bs : List Nat) (k : Nat) : Nat := (num bs ((12 + 16 * k + 12 : Nat) : Int) 4).getD 0
/-- The tables that are still to come; or why there is none. -/
def tabs (bs : List Nat) : Nat → List (List Nat × List Nat) → Sum Int (List (List Nat × List Nat))
  | 0, acc => .inr acc
  | m + 1, acc => if tagB bs acc.length ∈ acc.map (·.1) then .inl 2 else if thereB bs.length (offB bs acc.length) (lenB bs acc.length) = true then tabs bs m (acc ++ [(tagB bs acc.length, cutB bs (offB bs acc.length) (lenB bs acc.length))]) else .inl 3
/-- A font's tables, or why it is none. -/
def fontS (bs : List Nat) : Sum Int (List (List Nat × List Nat)) :=
  if bs.length < 12 then .inl 3 else if ¬ bs.take 4 ∈ versL then .inl 2 else if 64 < cnt bs then .inl 4 else if bs.length < 12 + cnt bs * 16 then .inl 3 else tabs bs (cnt bs) []
def errV (e : Int) : V := .tuple [.ptr none, .int .i64 e]
/- IN MEMORY -/
/-- A slice that shows bytes, some at least. -/
theorem bytesAt_place {st : St} {v : V} {bs : List Nat} (h : bytesAt st v = some bs) (hne : bs ≠ []) : ∃ i o c f own cs, v = .slice (some (i, o)) 1 bs.length c f ∧ bs.length ≤ c ∧ st.get i = some (.cells own cs) ∧ o + bs.length ≤ cs.length ∧ (cs.drop o).take bs.length = bytesV bs := by
  unfold bytesAt at h
  split at h
  · cases h; exact absurd rfl hne
  · rename_i i o n c f
    split at h
    · rename_i hnc
      split at h
      · rename_i own cs hg
        split at h
        · rename_i l hl
          by_cases hm : o + n ≤ cs.length
          · rw [cut_of hm] at hl
            cases hl
            obtain ⟨h1, _⟩ := bytesL_some h
            have hlen : n = bs.length := by
              have := congrArg List.length h1
              rw [bytesV_len, List.length_take, List.length_drop] at this
              omega
            subst hlen
            exact ⟨i, o, c, f, own, cs, rfl, hnc, hg, hm, h1⟩
          · exfalso
            have : ∀ (o n : Nat) (l r : List V), cut o n l = some r → 0 < n → o + n ≤ l.length := by
              intro o
              induction o with
              | zero =>
                intro n
                induction n with
                | zero => intro l r _ h; omega
                | succ n ih =>
                  intro l r h _
                  cases l with
                  | nil => cases h
                  | cons x l =>
                    have h : (match takeN n l with | some r => some (x :: r) | none => none) = some r := h
                    cases n with
                    | zero => simp
                    | succ n =>
                      split at h
                      · rename_i r' hr'
                        have := ih l r' hr' (Nat.succ_pos n)
                        simp; omega
                      · cases h
              | succ o ih =>
                intro n l r h hn
                cases n with
                | zero => omega
                | succ n =>
                  cases l with
                  | nil => cases h
                  | cons x l => have := ih (n + 1) l r h hn; simp; omega
            have hb : 0 < n := by
              cases n with
              | succ n => omega
              | zero =>
                exfalso
                have : l = [] := by
                  cases o with
                  | zero => cases hl; rfl
                  | succ o => cases cs <;> (cases hl; rfl)
                subst this
                cases h
                exact hne rfl
            exact hm (this o n cs l hl hb)
        · cases h
      · cases h
    · cases h
  · cases h
/-- Bytes of a memory that is larger. -/
theorem bytesAt_grow {os os' : List (Option AObj)} {v : V} {bs : List Nat} (h : bytesAt (few os) v = some bs) (he : ∀ i, i < os.length → (os'[i]?).join = (os[i]?).join) : bytesAt (few os') v = some bs := by
  unfold bytesAt at h ⊢
  split at h
  · exact h
  · rename_i i o n c f
    split at h
    · rename_i hnc
      rw [if_pos hnc]
      have hi : i < os.length := by
        rw [few_get] at h
        cases hx : os[i]? with
        | none => rw [hx] at h; cases h
        | some y => exact (List.getElem?_eq_some_iff.1 hx).1
      rw [few_get, he i hi, ← few_get]
      exact h
    · cases h
  · cases h
attribute [local simp] foot_box foot_call foot_alloc okAll_nil okAll_cons pastsOf nthP ahead alloc_dir backv back_back back_few next_back few_next load_d convStr_d store_d append_d2 append_d1 first_d2 first_d1 idOf okPair_dd okPair_dc okPair_cd okPair_cc anyIn_nil anyIn_same anyIn_cons meets_nil meets_nil' meets_cons mem_nil mem_cons nbeq_dec blt_dec ble_dec fieldAddrV natOf_zero
/-- The slice of the tags. -/
def tagsV (q n : Nat) : V := if n = 0 then .slice none 0 0 0 true else .slice (some (q, 0)) 1 n n false
def kvsOf (L : List (List Nat × List Nat)) (ps : List Nat) : List (List Nat × V) := List.zipWith (fun x p => (x.1, V.slice (some (p, 0)) 1 x.2.length x.2.length false)) L ps
theorem join_lt {os : List (Option AObj)} {i : Nat} {o : AObj} (h : (os[i]?).join = some o) : i < os.length := by
  cases hx : os[i]? with
  | none => rw [hx] at h; cases h
  | some y => exact (List.getElem?_eq_some_iff.1 hx).1
theorem join_app {os l : List (Option AObj)} {i : Nat} (h : i < os.length) : ((os ++ l)[i]?).join = (os[i]?).join := by rw [List.getElem?_append_left h]
theorem join_set {os : List (Option AObj)} {i j : Nat} {o : Option AObj} (h : i ≠ j) : ((os.set i o)[j]?).join = (os[j]?).join := by rw [List.getElem?_set_ne h]
theorem join_set_same {os : List (Option AObj)} {i : Nat} {o : Option AObj} (h : i < os.length) : ((os.set i o)[i]?).join = o := by rw [List.getElem?_set_self h]; rfl
theorem cells_map {a : Option Nat} : (V.map a).cells = some [.map a] := rfl
attribute [local simp] cells_map
/- THE LAW OF OPEN -/
noncomputable def lookB (l : Sight) : V → Option (List Nat)
  | .slice none 1 0 0 _ => some []
  | .slice (some (i, o)) 1 n c _ => if n ≤ c then match l i with | some (.cells _ cs) => (match cut o n cs with | some x => bytesL x | none => none) | _ => none else none
  | _ => none
theorem lookB_mono {l l' : Sight} (h : ∀ i o, l i = some o → l' i = some o) {v : V} {bs : List Nat} (hb : lookB l v = some bs) : lookB l' v = some bs := by
  unfold lookB at hb ⊢
  split at hb
  · exact hb
  · split at hb
    · rename_i hnc
      rw [if_pos hnc]
      split at hb
      · rename_i own cs hl
        rw [h _ _ hl]
        exact hb
      · cases hb
    · cases hb
  · cases hb
theorem lookB_at {st : St} {v : V} {bs : List Nat} (hb : lookB st.look v = some bs) : bytesAt st v = some bs := by
  unfold lookB at hb
  unfold bytesAt
  split at hb
  · exact hb
  · rename_i i o n c f
    show (if n ≤ c then match st.get i with | some (.cells _ cs) => (match cut o n cs with | some l => bytesL l | none => none) | _ => none else none) = some bs
    split at hb
    · rename_i hnc
      rw [if_pos hnc]
      split at hb
      · rename_i own cs hl
        obtain ⟨_, o', h2, _, h4⟩ := look_some hl
        cases o' with
        | cells own' cs' => cases h4; rw [h2]; exact hb
        | map own' es c => cases h4
      · cases hb
    · cases hb
  · cases hb
theorem lookB_of {st : St} {i o n c : Nat} {f own : Bool} {cs : List V} {bs : List Nat} (hi : i < st.next) (hg : st.get i = some (.cells own cs)) (hgood : goods st.next cs = true) (hnc : n ≤ c) (hm : o + n ≤ cs.length) (hcs : (cs.drop o).take n = bytesV bs) (hb : ∀ b ∈ bs, b < 256) : lookB st.look (.slice (some (i, o)) 1 n c f) = some bs := by
  show (if n ≤ c then match st.look i with | some (.cells _ cs) => (match cut o n cs with | some x => bytesL x | none => none) | _ => none else none) = some bs
  rw [if_pos hnc, look_of hi hg hgood]
  show (match cut o n cs with | some x => bytesL x | none => none) = some bs
  rw [cut_of hm, hcs]
  exact bytesL_of hb
noncomputable def idsOf' (N n : Nat) : List Nat := (List.range n).map (N + ·)
noncomputable def fontObjs (N : Nat) (L : List (List Nat × List Nat)) : List AObj :=
  [AObj.cells true [tagsV (N + 2 + L.length) L.length, .map (some (N + 1))], AObj.map true (entsF 0 (kvsOf L (idsOf' (N + 2) L.length))) L.length] ++ (L.map (fun x => newBytes x.2) ++ (if L = [] then [] else [AObj.cells true (strsV (L.map (·.1)))]))
noncomputable def openA (N : Nat) (bs : List Nat) : Ans :=
  match fontS bs with
  | .inl e => ([], fun _ => errV e)
  | .inr L => (fontObjs N L, fun k => .tuple [.ptr (some (k, 0)), .int .i64 0])
def OpenF (call : CallT) (g : Nat) : Prop := ∀ os v bs, v.good os.length = true → lookB (few os).look v = some bs → bs.length ≤ 140737488351232 → call g [v] (few os) = some ((openA os.length bs).2 os.length, few (os ++ (openA os.length bs).1.map some))
theorem OpenF.other {call : CallT} {n g : Nat} {l : List V → St → Option (V × St)} (h : OpenF call n) (hne : n ≠ g) : OpenF (withL call g l) n := fun os v bs a b c => by rw [withL_other hne]; exact h os v bs a b c

end Go.Vabs.Sb
