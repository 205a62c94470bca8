/- Lemmas for this claim, text Sb. No condition. -/
import Derived.Test.YtcgiiomghmffbaaVabsLb
namespace Go.Vabs.Sb
set_option linter.unusedVariables false
set_option linter.unusedSimpArgs false
set_option maxRecDepth 10000
def Open_c (n_U16 : Nat) (n_versioned : Nat) (n_U32 : Nat) (n_Part : Nat) (n_Contains : Nat) : AFunc := AFunc.mk 106 (.seq (.reg [AOper.mk (some (.i .h)) (.mv (.c (.ptr none))) none, AOper.mk (some (.o (.o .h))) (.mv (.c (.int .i64 (.ofNat 0)))) none]) (.seq (.reg [AOper.mk (some (.i (.i (.o (.o .h))))) (.call n_U16 [.t .h, .c (.int .i64 (.ofNat 4))]) none, AOper.mk (some (.o (.o (.i (.o .h))))) (.extract (.t (.i (.i (.o (.o .h))))) 0) none, AOper.mk (some (.i (.o (.i (.o .h))))) (.extract (.t (.i (.i (.o (.o .h))))) 1) none, AOper.mk (some (.i (.o .h))) (.mv (.t (.o (.o (.i (.o .h)))))) none, AOper.mk (some (.o (.i .h))) (.mv (.t (.i (.o (.i (.o .h)))))) none]) (.seq (.block 0 (.seq (.reg [AOper.mk (some (.o (.o (.o (.i .h))))) (.len .slice (.t .h)) none, AOper.mk (some (.i (.o (.o (.i .h))))) (.bin .lss (.val .int) (.t (.o (.o (.o (.i .h))))) (.c (.int .i64 (.ofNat 12)))) none, AOper.mk (some (.o (.i (.i (.o .h))))) (.mv (.t (.i (.o (.o (.i .h)))))) none]) (.cond (.t (.o (.i (.i (.o .h))))) (.seq (.reg [AOper.mk (some (.i .h)) (.mv (.c (.ptr none))) none, AOper.mk (some (.o (.o .h))) (.mv (.c (.int .i64 (.ofNat 3)))) none]) .ret) (.seq (.reg [AOper.mk (some (.o (.o (.i (.i .h))))) (.call n_versioned [.t .h]) none, AOper.mk (some (.i (.o (.i (.i .h))))) (.un .not (.t (.o (.o (.i (.i .h)))))) none, AOper.mk (some (.o (.i (.o (.i .h))))) (.mv (.t (.i (.o (.i (.i .h)))))) none]) (.cond (.t (.o (.i (.o (.i .h))))) (.seq (.reg [AOper.mk (some (.i .h)) (.mv (.c (.ptr none))) none, AOper.mk (some (.o (.o .h))) (.mv (.c (.int .i64 (.ofNat 2)))) none]) .ret) (.seq (.reg [AOper.mk (some (.o (.o (.o (.o (.o .h)))))) (.bin .gtr (.val .int) (.t (.i (.o .h))) (.c (.int .i64 (.ofNat 64)))) none, AOper.mk (some (.o (.i (.i (.i .h))))) (.mv (.t (.o (.o (.o (.o (.o .h))))))) none]) (.cond (.t (.o (.i (.i (.i .h))))) (.seq (.reg [AOper.mk (some (.i .h)) (.mv (.c (.ptr none))) none, AOper.mk (some (.o (.o .h))) (.mv (.c (.int .i64 (.ofNat 4)))) none]) .ret) (.seq (.reg [AOper.mk (some (.i (.i (.o (.o (.o .h)))))) (.len .slice (.t .h)) none, AOper.mk (some (.i (.o (.i (.o (.o .h)))))) (.bin .mul (.val .int) (.t (.i (.o .h))) (.c (.int .i64 (.ofNat 16)))) none, AOper.mk (some (.o (.i (.i (.o (.o .h)))))) (.bin .add (.val .int) (.c (.int .i64 (.ofNat 12))) (.t (.i (.o (.i (.o (.o .h))))))) none, AOper.mk (some (.i (.i (.i (.o (.o .h)))))) (.bin .lss (.val .int) (.t (.i (.i (.o (.o (.o .h)))))) (.t (.o (.i (.i (.o (.o .h))))))) none, AOper.mk (some (.i (.o (.o (.o (.o .h)))))) (.mv (.t (.i (.i (.i (.o (.o .h))))))) none]) (.cond (.t (.i (.o (.o (.o (.o .h)))))) (.seq (.reg [AOper.mk (some (.i .h)) (.mv (.c (.ptr none))) none, AOper.mk (some (.o (.o .h))) (.mv (.c (.int .i64 (.ofNat 3)))) none]) .ret) .skip))))))))) (.seq (.reg [AOper.mk (some (.o (.o (.o (.i (.o .h)))))) .mkmap none, AOper.mk (some (.i (.o (.o (.i (.o .h)))))) (.build [.slice none 0 0 0 true, .map none] [(1, (1, .t (.o (.o (.o (.i (.o .h)))))))]) none, AOper.mk (some (.o (.i (.o (.i (.o .h)))))) (.box (.t (.i (.o (.o (.i (.o .h))))))) none, AOper.mk (some (.i (.i .h))) (.mv (.t (.o (.i (.o (.i (.o .h))))))) none]) (.seq (.seq (.reg [AOper.mk (some (.i (.i (.o (.i (.o .h)))))) (.mv (.t (.i (.o .h)))) none, AOper.mk (some (.o (.o (.i (.i (.o .h)))))) (.mv (.c (.int .i64 (.ofNat 0)))) none]) (.block 1 (.loop (.seq (.reg [AOper.mk (some (.i (.o (.i (.i (.o .h)))))) (.bin .lss (.val .int) (.t (.o (.o (.i (.i (.o .h)))))) (.t (.i (.i (.o (.i (.o .h))))))) none]) (.seq (.cond (.t (.i (.o (.i (.i (.o .h)))))) .skip (.exit 1)) (.seq (.block 2 (.seq (.reg [AOper.mk (some (.o (.o (.o .h)))) (.mv (.t (.o (.o (.i (.i (.o .h))))))) none]) (.seq (.reg [AOper.mk (some (.o (.o (.o (.o (.i .h)))))) (.bin .mul (.val .int) (.t (.o (.o (.o .h)))) (.c (.int .i64 (.ofNat 16)))) none, AOper.mk (some (.i (.o (.o (.o (.i .h)))))) (.bin .add (.val .int) (.c (.int .i64 (.ofNat 12))) (.t (.o (.o (.o (.o (.i .h))))))) none, AOper.mk (some (.i (.o (.o .h)))) (.mv (.t (.i (.o (.o (.o (.i .h))))))) none]) (.seq (.reg [AOper.mk (some (.i (.o (.i (.o (.i .h)))))) (.bin .add (.val .int) (.t (.i (.o (.o .h)))) (.c (.int .i64 (.ofNat 4)))) none, AOper.mk (some (.o (.i (.i (.o (.i .h)))))) (.slice (.slice 1) (.t .h) (some (.t (.i (.o (.o .h))))) (some (.t (.i (.o (.i (.o (.i .h))))))) none) none, AOper.mk (some (.i (.i (.i (.o (.i .h)))))) (.conv .toStr (.t (.o (.i (.i (.o (.i .h))))))) none, AOper.mk (some (.o (.i (.o .h)))) (.mv (.t (.i (.i (.i (.o (.i .h))))))) none]) (.seq (.reg [AOper.mk (some (.i (.i (.o (.i (.i .h)))))) (.bin .add (.val .int) (.t (.i (.o (.o .h)))) (.c (.int .i64 (.ofNat 8)))) none, AOper.mk (some (.o (.o (.i (.i (.i .h)))))) (.call n_U32 [.t .h, .t (.i (.i (.o (.i (.i .h)))))]) none, AOper.mk (some (.i (.o (.i (.i (.i .h)))))) (.extract (.t (.o (.o (.i (.i (.i .h)))))) 0) none, AOper.mk (some (.o (.i (.i (.i (.i .h)))))) (.extract (.t (.o (.o (.i (.i (.i .h)))))) 1) none, AOper.mk (some (.i (.i (.o .h)))) (.mv (.t (.i (.o (.i (.i (.i .h))))))) none, AOper.mk (some (.o (.o (.i .h)))) (.mv (.t (.o (.i (.i (.i (.i .h))))))) none]) (.seq (.reg [AOper.mk (some (.o (.i (.o (.o (.o (.o .h))))))) (.bin .add (.val .int) (.t (.i (.o (.o .h)))) (.c (.int .i64 (.ofNat 12)))) none, AOper.mk (some (.i (.i (.o (.o (.o (.o .h))))))) (.call n_U32 [.t .h, .t (.o (.i (.o (.o (.o (.o .h))))))]) none, AOper.mk (some (.o (.o (.i (.o (.o (.o .h))))))) (.extract (.t (.i (.i (.o (.o (.o (.o .h))))))) 0) none, AOper.mk (some (.i (.o (.i (.o (.o (.o .h))))))) (.extract (.t (.i (.i (.o (.o (.o (.o .h))))))) 1) none, AOper.mk (some (.i (.o (.i .h)))) (.mv (.t (.o (.o (.i (.o (.o (.o .h)))))))) none, AOper.mk (some (.o (.i (.i .h)))) (.mv (.t (.i (.o (.i (.o (.o (.o .h)))))))) none]) (.seq (.reg [AOper.mk (some (.o (.i (.o (.i (.o (.o .h))))))) (.call n_Part [.t .h, .t (.i (.i (.o .h))), .t (.i (.o (.i .h)))]) none, AOper.mk (some (.i (.i (.o (.i (.o (.o .h))))))) (.extract (.t (.o (.i (.o (.i (.o (.o .h))))))) 0) none, AOper.mk (some (.o (.o (.i (.i (.o (.o .h))))))) (.extract (.t (.o (.i (.o (.i (.o (.o .h))))))) 1) none, AOper.mk (some (.i (.i (.i .h)))) (.mv (.t (.i (.i (.o (.i (.o (.o .h)))))))) none, AOper.mk (some (.o (.o (.o (.o .h))))) (.mv (.t (.o (.o (.i (.i (.o (.o .h)))))))) none]) (.seq (.block 3 (.seq (.reg [AOper.mk (some (.i (.i (.i (.i (.o (.o .h))))))) (.nilchk (.t (.i (.i .h)))) none, AOper.mk (some (.o (.o (.o (.o (.i (.o .h))))))) (.fieldAddr 0 (.t (.i (.i (.i (.i (.o (.o .h)))))))) none, AOper.mk (some (.i (.o (.o (.o (.i (.o .h))))))) (.load false 1 (.t (.o (.o (.o (.o (.i (.o .h)))))))) none, AOper.mk (some (.i (.i (.o (.o (.i (.o .h))))))) (.call n_Contains [.t (.i (.o (.o (.o (.i (.o .h)))))), .t (.o (.i (.o .h)))]) none, AOper.mk (some (.i (.o (.i (.i (.o (.o .h))))))) (.mv (.t (.i (.i (.o (.o (.i (.o .h)))))))) none]) (.cond (.t (.i (.o (.i (.i (.o (.o .h))))))) (.seq (.reg [AOper.mk (some (.i .h)) (.mv (.c (.ptr none))) none, AOper.mk (some (.o (.o .h))) (.mv (.c (.int .i64 (.ofNat 2)))) none]) .ret) (.seq (.reg [AOper.mk (some (.o (.i (.i (.o (.i (.o .h))))))) (.un .not (.t (.o (.o (.o (.o .h)))))) none, AOper.mk (some (.o (.o (.i (.o (.i (.o .h))))))) (.mv (.t (.o (.i (.i (.o (.i (.o .h)))))))) none]) (.cond (.t (.o (.o (.i (.o (.i (.o .h))))))) (.seq (.reg [AOper.mk (some (.i .h)) (.mv (.c (.ptr none))) none, AOper.mk (some (.o (.o .h))) (.mv (.c (.int .i64 (.ofNat 3)))) none]) .ret) .skip))))) (.dreg [(AOper.mk (some (.i (.i (.i (.o (.i (.o .h))))))) (.mv (.t (.i (.i .h)))) none, []), (AOper.mk (some (.o (.o (.o (.i (.i (.o .h))))))) (.mv (.t (.i (.i .h)))) none, []), (AOper.mk (some (.i (.o (.o (.i (.i (.o .h))))))) (.nilchk (.t (.o (.o (.o (.i (.i (.o .h)))))))) none, []), (AOper.mk (some (.o (.i (.o (.i (.i (.o .h))))))) (.fieldAddr 1 (.t (.i (.o (.o (.i (.i (.o .h)))))))) none, []), (AOper.mk (some (.i (.i (.o (.i (.i (.o .h))))))) (.load false 1 (.t (.o (.i (.o (.i (.i (.o .h)))))))) none, [9, 11, 12]), (AOper.mk (some (.o (.o (.i (.i (.i (.o .h))))))) (.mv (.t (.o (.i (.o .h))))) none, []), (AOper.mk (some (.i (.o (.i (.i (.i (.o .h))))))) (.mv (.t (.i (.i .h)))) none, []), (AOper.mk (some (.o (.i (.i (.i (.i (.o .h))))))) (.nilchk (.t (.i (.o (.i (.i (.i (.o .h)))))))) none, []), (AOper.mk (some (.i (.i (.i (.i (.i (.o .h))))))) (.fieldAddr 0 (.t (.o (.i (.i (.i (.i (.o .h)))))))) none, []), (AOper.mk (some (.o (.o (.o (.o (.o (.i .h))))))) (.load false 1 (.t (.i (.i (.i (.i (.i (.o .h)))))))) none, [4, 11]), (AOper.mk (some (.i (.o (.o (.o (.o (.i .h))))))) (.mv (.t (.o (.i (.o .h))))) none, []), (AOper.mk (some (.o (.i (.o (.o (.o (.i .h))))))) (.bslice 1 1 [.str []] [(0, (1, .t (.i (.o (.o (.o (.o (.i .h))))))))]) none, [4, 9]), (AOper.mk (some (.i (.i (.o (.o (.o (.i .h))))))) (.append 1 16 (.t (.o (.o (.o (.o (.o (.i .h))))))) (.t (.o (.i (.o (.o (.o (.i .h)))))))) none, [4]), (AOper.mk (some (.o (.o (.i (.o (.o (.i .h))))))) (.mv (.t (.i (.i (.i .h))))) none, []), (AOper.mk (some (.i (.o (.i (.o (.o (.i .h))))))) (.nilchk (.t (.i (.i (.i (.o (.i (.o .h)))))))) none, []), (AOper.mk (some (.o (.i (.i (.o (.o (.i .h))))))) (.fieldAddr 0 (.t (.i (.o (.i (.o (.o (.i .h)))))))) none, []), (AOper.mk none (.store 1 (.t (.o (.i (.i (.o (.o (.i .h))))))) (.t (.i (.i (.o (.o (.o (.i .h)))))))) none, []), (AOper.mk (some (.i (.i (.i (.o (.o (.i .h))))))) (.mapEntry none (.slice none 0 0 0 true) (.t (.i (.i (.o (.i (.i (.o .h))))))) (.t (.o (.o (.i (.i (.i (.o .h)))))))) none, []), (AOper.mk (some (.o (.o (.o (.i (.o (.i .h))))))) (.extract (.t (.i (.i (.i (.o (.o (.i .h))))))) 1) none, []), (AOper.mk none (.entryStore (.t (.i (.i (.o (.i (.i (.o .h))))))) (.t (.o (.o (.o (.i (.o (.i .h))))))) (.t (.o (.o (.i (.o (.o (.i .h)))))))) none, [])]))))))))) (.reg [AOper.mk (some (.i (.o (.o (.i (.o (.i .h))))))) (.bin .add (.val .int) (.t (.o (.o (.i (.i (.o .h)))))) (.c (.int .i64 (.ofNat 1)))) none, AOper.mk (some (.o (.o (.i (.i (.o .h)))))) (.mv (.t (.i (.o (.o (.i (.o (.i .h)))))))) none]))))))) (.seq (.reg [AOper.mk (some (.i .h)) (.mv (.t (.i (.i .h)))) none, AOper.mk (some (.o (.o .h))) (.mv (.c (.int .i64 (.ofNat 0)))) none]) .ret)))))) [.tmp (.i .h), .tmp (.o (.o .h))]
def versioned_c (n_Contains : Nat) : AFunc := AFunc.mk 8 (.seq (.reg [AOper.mk (some (.i .h)) (.mv (.c (.bool false))) none]) (.seq (.reg [AOper.mk (some (.o (.o .h))) (.bslice 1 3 [.str []] [(0, (1, .c (.str [0, 1, 0, 0]))), (1, (1, .c (.str [79, 84, 84, 79]))), (2, (1, .c (.str [116, 114, 117, 101])))]) none, AOper.mk (some (.o (.i .h))) (.slice (.slice 1) (.t .h) none (some (.c (.int .i64 (.ofNat 4)))) none) none, AOper.mk (some (.i (.i .h))) (.conv .toStr (.t (.o (.i .h)))) none, AOper.mk (some (.o (.o (.o .h)))) (.call n_Contains [.t (.o (.o .h)), .t (.i (.i .h))]) none, AOper.mk (some (.i .h)) (.mv (.t (.o (.o (.o .h))))) none]) .ret)) [.tmp (.i .h)]
attribute [local simp] wp_skip wp_ret wp_exit wp_reg wp_seq wp_cond wp_block thenQ_normal thenQ_ret thenQ_exit blockQ_normal blockQ_ret blockQ_exit wpCond_true wpCond_false wpOps_nil wpVal_some wpGuard_true wpGuard_false wpOps_guard wpOps_cons
  put_at put_no ev_c ev_slot posEq_h posEq_o posEq_i posEq_ho posEq_hi posEq_oh posEq_ih posEq_oi posEq_io sel_true sel_false
  okv_some step_mv step_call step_pick pickV_bool step_bin bin_add bin_sub bin_mul bin_eql bin_neq bin_lss bin_leq bin_gtr bin_geq bin_eqb bin_neb bin_eqs bin_nes step_un un_not un_neg step_len len_slice len_str len_const step_extract extractV nth step_convInt conv_int step_convStr step_slice step_idxAddr natOf_nat step_load step_index step_field step_fieldAddr step_build step_minmax
  step_alloc step_bslice bsliceV_some newV_some step_store step_append boolIs_b boolIs_t finQ_ret finQ_normal ressE_nil ressE_cons resE_tmp consO_some initE_nil initE_cons pos_0 pos_1 pos_2 pos_3 pos_4 pos_5 pos_6 pos_7 pos_8 plain_bool plain_int plain_str plain_ptr plain_slice plain_map plain_agg plain_func plain_nilFunc V.undef oneOf_one oneOf_two ble_self
open Go.Vabs.Pk Go.Vabs.Ph Go.Vabs.Sa
attribute [local simp] step_nilchk nilchk_ptr step_mkmap step_lookup step_mapEntry step_entryStore step_box cells_int cells_bool cells_str cells_slice cells_ptr cells_agg few_alloc lawOut_nil lawOut_one
  wp_dreg wpDs_nil wpDs_cons wantedE_none wantedE_some wpDGuard_true wpDGuard_lim wpDGuard_false wpDLim_true wpDVal_free wpDVal_lim back_limited next_limited limF_dir foot_load foot_store foot_bslice foot_append
theorem slice_lohiF {a : Option (Nat × Nat)} {e n c : Nat} {f : Bool} {k k' : IntKind} {l h : Int} (h0 : 0 ≤ l) (h1 : l ≤ h) (h2 : h ≤ c) (h3 : l < c) : sliceOp (.slice e) (.slice a e n c f) (some (.int k l)) (some (.int k' h)) none = some (.slice (shiftA a (l.toNat * e)) e (h.toNat - l.toNat) (c - l.toNat) f) := by
  have hb : Nat.beq c l.toNat = false := by
    cases hq : Nat.beq c l.toNat with
    | false => rfl
    | true => rw [Nat.beq_eq] at hq; omega
  simp only [sliceOp, bound, natOf_int h0, natOf_int (show (0 : Int) ≤ h by omega), Nat.beq_refl, Bool.true_or, sel_true, ble_t (show l.toNat ≤ h.toNat by omega), ble_t (show h.toNat ≤ c by omega), Option.isSome_none, Bool.or_false, hb, Bool.false_and, sel_false]
theorem slice_hiF {a : Option (Nat × Nat)} {e n c : Nat} {f : Bool} {k : IntKind} {h : Int} (h0 : 0 ≤ h) (h2 : h ≤ c) (h3 : 0 < c) : sliceOp (.slice e) (.slice a e n c f) none (some (.int k h)) none = some (.slice (shiftA a 0) e h.toNat c f) := by
  have hb : Nat.beq c 0 = false := by
    cases c with
    | zero => omega
    | succ c => rfl
  simp only [sliceOp, bound, natOf_int h0, Nat.beq_refl, Bool.true_or, sel_true, ble_t (show h.toNat ≤ c by omega), Option.isSome_none, Bool.or_false, hb, Bool.false_and, sel_false, Nat.zero_mul, Nat.sub_zero, ble_t (Nat.zero_le _)]
def versL : List (List Nat) := [[0, 1, 0, 0], [79, 84, 84, 79], [116, 114, 117, 101]]
def cnt (bs : List Nat) : Nat := (num bs 4 2).getD 0
def tagB (bs : List Nat) (k : Nat) : List Nat := (bs.drop (12 + 16 * k)).take 4
def offB (bs : List Nat) (k : Nat) : Nat := (num bs ((12 + 16 * k + 8 : Nat) : Int) 4).getD 0
def lenB (bs : List Nat) (k : Nat) : Nat := (num bs ((12 + 16 * k + 12 : Nat) : Int) 4).getD 0
def tabs (bs : List Nat) : Nat → List (List Nat × List Nat) → Sum Int (List (List Nat × List Nat))
  | 0, acc => .inr acc
  | m + 1, acc => if tagB bs acc.length ∈ acc.map (·.1) then .inl 2 else if thereB bs.length (offB bs acc.length) (lenB bs acc.length) = true then tabs bs m (acc ++ [(tagB bs acc.length, cutB bs (offB bs acc.length) (lenB bs acc.length))]) else .inl 3
def fontS (bs : List Nat) : Sum Int (List (List Nat × List Nat)) :=
  if bs.length < 12 then .inl 3 else if ¬ bs.take 4 ∈ versL then .inl 2 else if 64 < cnt bs then .inl 4 else if bs.length < 12 + cnt bs * 16 then .inl 3 else tabs bs (cnt bs) []
def errV (e : Int) : V := .tuple [.ptr none, .int .i64 e]
theorem bytesAt_place {st : St} {v : V} {bs : List Nat} (h : bytesAt st v = some bs) (hne : bs ≠ []) : ∃ i o c f own cs, v = .slice (some (i, o)) 1 bs.length c f ∧ bs.length ≤ c ∧ st.get i = some (.cells own cs) ∧ o + bs.length ≤ cs.length ∧ (cs.drop o).take bs.length = bytesV bs := by
  unfold bytesAt at h
  split at h
  · cases h; exact absurd rfl hne
  · rename_i i o n c f
    split at h
    · rename_i hnc
      split at h
      · rename_i own cs hg
        split at h
        · rename_i l hl
          by_cases hm : o + n ≤ cs.length
          · rw [cut_of hm] at hl
            cases hl
            obtain ⟨h1, _⟩ := bytesL_some h
            have hlen : n = bs.length := by
              have := congrArg List.length h1
              rw [bytesV_len, List.length_take, List.length_drop] at this
              omega
            subst hlen
            exact ⟨i, o, c, f, own, cs, rfl, hnc, hg, hm, h1⟩
          · exfalso
            have : ∀ (o n : Nat) (l r : List V), cut o n l = some r → 0 < n → o + n ≤ l.length := by
              intro o
              induction o with
              | zero =>
                intro n
                induction n with
                | zero => intro l r _ h; omega
                | succ n ih =>
                  intro l r h _
                  cases l with
                  | nil => cases h
                  | cons x l =>
                    have h : (match takeN n l with | some r => some (x :: r) | none => none) = some r := h
                    cases n with
                    | zero => simp
                    | succ n =>
                      split at h
                      · rename_i r' hr'
                        have := ih l r' hr' (Nat.succ_pos n)
                        simp; omega
                      · cases h
              | succ o ih =>
                intro n l r h hn
                cases n with
                | zero => omega
                | succ n =>
                  cases l with
                  | nil => cases h
                  | cons x l => have := ih (n + 1) l r h hn; simp; omega
            have hb : 0 < n := by
              cases n with
              | succ n => omega
              | zero =>
                exfalso
                have : l = [] := by
                  cases o with
                  | zero => cases hl; rfl
                  | succ o => cases cs <;> (cases hl; rfl)
                subst this
                cases h
                exact hne rfl
            exact hm (this o n cs l hl hb)
        · cases h
      · cases h
    · cases h
  · cases h
theorem bytesAt_grow {os os' : List (Option AObj)} {v : V} {bs : List Nat} (h : bytesAt (few os) v = some bs) (he : ∀ i, i < os.length → (os'[i]?).join = (os[i]?).join) : bytesAt (few os') v = some bs := by
  unfold bytesAt at h ⊢
  split at h
  · exact h
  · rename_i i o n c f
    split at h
    · rename_i hnc
      rw [if_pos hnc]
      have hi : i < os.length := by
        rw [few_get] at h
        cases hx : os[i]? with
        | none => rw [hx] at h; cases h
        | some y => exact (List.getElem?_eq_some_iff.1 hx).1
      rw [few_get, he i hi, ← few_get]
      exact h
    · cases h
  · cases h
theorem str_part {os : List (Option AObj)} {i o c m : Nat} {f own : Bool} {cs : List V} {bs : List Nat} {n : Nat} (h : (os[i]?).join = some (.cells own cs)) (hm : o + n ≤ cs.length) (hcs : (cs.drop o).take n = bytesV bs) (hb : ∀ b ∈ bs, b < 256) (k : Nat) (hk : k + m ≤ n) :
    convV (few os) .toStr (.slice (some (i, o + k)) 1 m c f) = some (.str ((bs.drop k).take m)) := by
  show sel (Nat.beq 1 1) (match (few os).loadN i (o + k) m with | some cs => (bytesOf cs).map V.str | none => none) none = _
  rw [loadN_few h (by omega), Nat.beq_refl, sel_true]
  have : (cs.drop (o + k)).take m = bytesV ((bs.drop k).take m) := by
    rw [← bytesV_take, ← bytesV_drop, ← hcs, List.drop_take, List.take_take, List.drop_drop, Nat.min_eq_left (by omega)]
  rw [this]
  show (bytesOf (bytesV _)).map V.str = _
  rw [bytesOf_of fun b hb' => hb b (List.mem_of_mem_drop (List.mem_of_mem_take hb'))]
  rfl
def VersF (call : CallT) (g : Nat) : Prop := ∀ os v bs, bytesAt (few os) v = some bs → 4 ≤ bs.length → ∃ o, call g [v] (few os) = some (.bool (decide (bs.take 4 ∈ versL)), few (os ++ [o]))
theorem vers_run {call : CallT} {lf lf' nc : Nat} (hlf : 4 ≤ lf') (hc : ContF lf' call nc) {os : List (Option AObj)} {v : V} {bs : List Nat} (h : bytesAt (few os) v = some bs) (hl : 4 ≤ bs.length) :
    enterF call lf [v] (few os) (versioned_c nc) = some (.bool (decide (bs.take 4 ∈ versL)), few (os ++ [some (.cells true (strsV versL))])) := by
  obtain ⟨i, o, c, f, own, cs, rfl, hnc, hg, hm, hcs⟩ := bytesAt_place h (by intro e; subst e; simp at hl)
  have hb := bytesAt_lt h
  have hi : i < os.length := by
    rw [few_get] at hg
    cases hx : os[i]? with
    | none => rw [hx] at hg; cases hg
    | some y => exact (List.getElem?_eq_some_iff.1 hx).1
  have hg' : ((os ++ [some (AObj.cells true (strsV versL))])[i]?).join = some (.cells own cs) := by rw [List.getElem?_append_left hi, ← few_get]; exact hg
  have hs := str_part (c := c) (f := f) (m := 4) hg' hm hcs hb 0 (by omega)
  have hst : strsAt (few (os ++ [some (AObj.cells true (strsV versL))])) (.slice (some (os.length, 0)) 1 3 3 true) versL := ⟨by omega, rfl, true, strsV versL, by rw [few_get]; simp, by simp [strsV, versL], by simp [strsV, versL]⟩
  have hcc := hc _ _ _ _ _ _ _ (bs.take 4) hst (by simp [versL]; omega) (by simp [versL])
  refine enter_eq ?_
  simp (disch := omega) [fill, repN, splice, over, slice_hiF, shiftA_some]
  rw [show [V.str [0, 1, 0, 0], V.str [79, 84, 84, 79], V.str [116, 114, 117, 101]] = strsV versL from rfl]
  simp at hs
  simp [hs, hcc]
attribute [local simp] foot_box foot_call foot_alloc okAll_nil okAll_cons pastsOf nthP ahead alloc_dir backv back_back back_few next_back few_next load_d convStr_d store_d append_d2 append_d1 first_d2 first_d1 idOf okPair_dd okPair_dc okPair_cd okPair_cc anyIn_nil anyIn_same anyIn_cons meets_nil meets_nil' meets_cons mem_nil mem_cons nbeq_dec blt_dec ble_dec fieldAddrV natOf_zero
def tagsV (q n : Nat) : V := if n = 0 then .slice none 0 0 0 true else .slice (some (q, 0)) 1 n n false
def kvsOf (L : List (List Nat × List Nat)) (ps : List Nat) : List (List Nat × V) := List.zipWith (fun x p => (x.1, V.slice (some (p, 0)) 1 x.2.length x.2.length false)) L ps
structure FontAt (os : List (Option AObj)) (N F M : Nat) (L : List (List Nat × List Nat)) (ps : List Nat) (q : Nat) : Prop where
  font : (os[F]?).join = some (.cells true [tagsV q L.length, .map (some M)])
  map : (os[M]?).join = some (.map true (entsF 0 (kvsOf L ps)) L.length)
  tags : L ≠ [] → (os[q]?).join = some (.cells true (strsV (L.map (·.1))))
  tabs : ∀ (j p : Nat) (x : List Nat × List Nat), ps[j]? = some p → L[j]? = some x → (os[p]?).join = some (newBytes x.2)
  len : ps.length = L.length
  lo : N ≤ F ∧ N ≤ M ∧ N ≤ q ∧ ∀ p ∈ ps, N ≤ p
  ne : F ≠ M ∧ q ≠ F ∧ q ≠ M ∧ F ∉ ps ∧ M ∉ ps ∧ q ∉ ps ∧ ps.Nodup
theorem kvs_keys {L : List (List Nat × List Nat)} {ps : List Nat} (h : ps.length = L.length) : (kvsOf L ps).map (·.1) = L.map (·.1) := by
  unfold kvsOf
  induction L generalizing ps with
  | nil => rfl
  | cons x L ih =>
    cases ps with
    | nil => simp at h
    | cons p ps => exact congrArg (x.1 :: ·) (ih (by simpa using h))
theorem kvs_len {L : List (List Nat × List Nat)} {ps : List Nat} (h : ps.length = L.length) : (kvsOf L ps).length = L.length := by
  unfold kvsOf
  rw [List.length_zipWith, h, Nat.min_self]
theorem kvs_snoc {L : List (List Nat × List Nat)} {ps : List Nat} (h : ps.length = L.length) (x : List Nat × List Nat) (p : Nat) : kvsOf (L ++ [x]) (ps ++ [p]) = kvsOf L ps ++ [(x.1, V.slice (some (p, 0)) 1 x.2.length x.2.length false)] := by
  unfold kvsOf
  rw [List.zipWith_append h.symm]
  rfl
theorem join_lt {os : List (Option AObj)} {i : Nat} {o : AObj} (h : (os[i]?).join = some o) : i < os.length := by
  cases hx : os[i]? with
  | none => rw [hx] at h; cases h
  | some y => exact (List.getElem?_eq_some_iff.1 hx).1
theorem join_app {os l : List (Option AObj)} {i : Nat} (h : i < os.length) : ((os ++ l)[i]?).join = (os[i]?).join := by rw [List.getElem?_append_left h]
theorem join_set {os : List (Option AObj)} {i j : Nat} {o : Option AObj} (h : i ≠ j) : ((os.set i o)[j]?).join = (os[j]?).join := by rw [List.getElem?_set_ne h]
theorem join_set_same {os : List (Option AObj)} {i : Nat} {o : Option AObj} (h : i < os.length) : ((os.set i o)[i]?).join = o := by rw [List.getElem?_set_self h]; rfl
noncomputable def roundOs (os : List (Option AObj)) (F M : Nat) (L : List (List Nat × List Nat)) (ps : List Nat) (q : Nat) (tag t : List Nat) : List (Option AObj) :=
  ((((if L = [] then os ++ [some (newBytes t)] ++ [some (AObj.cells true [V.str tag])] else (os ++ [some (newBytes t)] ++ [some (AObj.cells true [V.str tag])]).set q none) ++ [some (AObj.cells true (strsV (L.map (·.1) ++ [tag])))]).set F (some (AObj.cells true [tagsV (os.length + 2) (L.length + 1), .map (some M)]))).set M (some (AObj.map true (entsF 0 (kvsOf L ps ++ [(tag, .slice (some (os.length, 0)) 1 t.length t.length false)])) (L.length + 1))))
theorem FontAt.round {os : List (Option AObj)} {N F M q : Nat} {L : List (List Nat × List Nat)} {ps : List Nat} (h : FontAt os N F M L ps q) (tag t : List Nat) : FontAt (roundOs os F M L ps q tag t) N F M (L ++ [(tag, t)]) (ps ++ [os.length]) (os.length + 2) ∧
    (∀ i, i < N → ((roundOs os F M L ps q tag t)[i]?).join = (os[i]?).join) ∧ (roundOs os F M L ps q tag t).length = os.length + 3 := by
  have hF := join_lt h.font
  have hM := join_lt h.map
  have hps : ∀ p ∈ ps, p < os.length := by
    intro p hp
    obtain ⟨j, hj, he⟩ := List.getElem_of_mem hp
    have hj' : j < L.length := by rw [← h.len]; exact hj
    exact join_lt (h.tabs j p L[j] (by rw [List.getElem?_eq_getElem hj, he]) (List.getElem?_eq_getElem hj'))
  obtain ⟨mid, hmid, hmlen, hmold, hmnew⟩ : ∃ mid : List (Option AObj), (if L = [] then os ++ [some (newBytes t)] ++ [some (AObj.cells true [V.str tag])] else (os ++ [some (newBytes t)] ++ [some (AObj.cells true [V.str tag])]).set q none) = mid ∧
      mid.length = os.length + 2 ∧ (∀ i, i < os.length → i ≠ q ∨ L = [] → (mid[i]?).join = (os[i]?).join) ∧ (mid[os.length]?).join = some (newBytes t) := by
    refine ⟨_, rfl, ?_, ?_, ?_⟩
    · split <;> simp
    · intro i hi hq
      split
      · rw [join_app (by simp; omega), join_app hi]
      · rename_i hne
        rw [join_set (by rcases hq with a | a; exact fun e => a e.symm; exact absurd a hne), join_app (by simp; omega), join_app hi]
    · split
      · rw [join_app (by simp)]; simp
      · rename_i hne
        have := join_lt (h.tags hne)
        rw [join_set (by omega), join_app (by simp)]; simp
  have e : roundOs os F M L ps q tag t = ((mid ++ [some (AObj.cells true (strsV (L.map (·.1) ++ [tag])))]).set F (some (AObj.cells true [tagsV (os.length + 2) (L.length + 1), .map (some M)]))).set M (some (AObj.map true (entsF 0 (kvsOf L ps ++ [(tag, .slice (some (os.length, 0)) 1 t.length t.length false)])) (L.length + 1))) := by
    unfold roundOs; rw [hmid]
  rw [e]
  have old : ∀ i, i < os.length + 2 → i ≠ F → i ≠ M → ((((mid ++ [some (AObj.cells true (strsV (L.map (·.1) ++ [tag])))]).set F (some (AObj.cells true [tagsV (os.length + 2) (L.length + 1), .map (some M)]))).set M (some (AObj.map true (entsF 0 (kvsOf L ps ++ [(tag, .slice (some (os.length, 0)) 1 t.length t.length false)])) (L.length + 1))))[i]?).join = (mid[i]?).join := by
    intro i hi h1 h2
    rw [join_set (fun e => h2 e.symm), join_set (fun e => h1 e.symm), join_app (by omega)]
  refine ⟨⟨?_, ?_, ?_, ?_, ?_, ?_, ?_⟩, ?_, ?_⟩
  · rw [join_set (fun e => h.ne.1 e.symm), join_set_same (by simp; omega)]
    simp
  · rw [join_set_same (by simp; omega), kvs_snoc h.len]
    simp
  · intro _
    rw [join_set (by omega), join_set (by omega)]
    rw [← hmlen]
    simp
  · intro j p x hp hx
    rcases Nat.lt_or_ge j L.length with hj | hj
    · rw [List.getElem?_append_left (by rw [h.len]; exact hj)] at hp
      rw [List.getElem?_append_left hj] at hx
      have hpm := List.mem_of_getElem? hp
      have hlt := hps p hpm
      rw [old p (by omega) (fun e => h.ne.2.2.2.1 (e ▸ hpm)) (fun e => h.ne.2.2.2.2.1 (e ▸ hpm)), hmold p hlt (.inl fun e => h.ne.2.2.2.2.2.1 (e ▸ hpm))]
      exact h.tabs j p x hp hx
    · have hj' : j = L.length := by
        have := (List.getElem?_eq_some_iff.1 hx).1
        simp at this; omega
      subst hj'
      have hp' : p = os.length := by
        rw [← h.len] at hp
        simpa using hp.symm
      have hx' : x = (tag, t) := by simpa using hx.symm
      subst hp' hx'
      rw [old _ (by omega) (by omega) (by omega), hmnew]
  · simp [h.len]
  · refine ⟨h.lo.1, h.lo.2.1, by have := h.lo.1; omega, fun p hp => ?_⟩
    rcases List.mem_append.1 hp with hp | hp
    · exact h.lo.2.2.2 p hp
    · have := h.lo.1
      simp at hp; omega
  · refine ⟨h.ne.1, by omega, by omega, ?_, ?_, ?_, ?_⟩
    · intro hp
      rcases List.mem_append.1 hp with hp | hp
      · exact h.ne.2.2.2.1 hp
      · simp at hp; omega
    · intro hp
      rcases List.mem_append.1 hp with hp | hp
      · exact h.ne.2.2.2.2.1 hp
      · simp at hp; omega
    · intro hp
      rcases List.mem_append.1 hp with hp | hp
      · have := hps _ hp; omega
      · simp at hp
    · rw [List.nodup_append]
      refine ⟨h.ne.2.2.2.2.2.2, by simp, ?_⟩
      intro a ha b hb
      have := hps a ha
      simp at hb; omega
  · intro i hi
    have h1 := h.lo.1
    have h2 := h.lo.2.1
    have h3 := h.lo.2.2.1
    rw [old i (by omega) (by omega) (by omega), hmold i (by omega) (.inl (by omega))]
  · simp [hmlen]
def OpenPost (os : List (Option AObj)) (bs : List Nat) (v : V) (st : St) : Prop :=
  (∃ e, fontS bs = .inl e ∧ v = errV e) ∨ ∃ L os' F M ps q, fontS bs = .inr L ∧ v = .tuple [.ptr (some (F, 0)), .int .i64 0] ∧ st = few os' ∧ FontAt os' os.length F M L ps q ∧ (∀ i, i < os.length → (os'[i]?).join = (os[i]?).join)
theorem num_le {bs : List Nat} {x : Int} {z : Nat} (hb : ∀ b ∈ bs, b < 256) (hz : z ≤ 4) : (num bs x z).getD 0 < 4294967296 := by
  have h1 := num_lt (x := x) (z := z) hb
  have h2 : 256 ^ z ≤ 256 ^ 4 := Nat.pow_le_pow_right (by omega) hz
  omega
theorem growTags {os : List (Option AObj)} {q n : Nat} {ts : List (List Nat)} {tag : List Nat} (hn : n = ts.length) (hs : n ≤ 64) (h : n ≠ 0 → (os[q]?).join = some (.cells true (strsV ts))) :
    appendV (few os) 1 16 (tagsV q n) (some 1) (some [V.str tag]) = some (.slice (some (os.length, 0)) 1 (n + 1) (n + 1) false, few ((if n = 0 then os else os.set q none) ++ [some (AObj.cells true (strsV (ts ++ [tag])))])) := by
  unfold tagsV
  split
  · rename_i h0
    subst h0
    have : ts = [] := by cases ts with | nil => rfl | cons _ _ => simp at hn
    subst this
    rw [grow_none, if_pos (by simp)]
    rfl
  · rename_i h0
    have hg := h h0
    have ho : ownAt os q = some (strsV ts) := by rw [ownAt_eq, hg]
    rw [grow_some, ho, growC_some, if_pos (by rw [strsV_len]; simp; omega)]
    rw [show strsV (ts ++ [tag]) = strsV ts ++ [V.str tag] from by simp [strsV]]
theorem cells_map {a : Option Nat} : (V.map a).cells = some [.map a] := rfl
attribute [local simp] cells_map
theorem Open_run {call : CallT} {lf lf' n16 nV n32 nP nC : Nat} (hlf : 66 ≤ lf) (hlf' : 66 ≤ lf') (h16 : UF 2 call n16) (h32 : UF 4 call n32) (hP : PartF call nP) (hV : VersF call nV) (hC : ContF lf' call nC)
    {os : List (Option AObj)} {v : V} {bs : List Nat} (h : bytesAt (few os) v = some bs) (hl : bs.length ≤ 140737488354000) :
    ∃ w st', enterF call lf [v] (few os) (Open_c n16 nV n32 nP nC) = some (w, st') ∧ OpenPost os bs w st' := by
  refine enter_wp ?_
  have hb := bytesAt_lt h
  have hcnt : cnt bs < 4294967296 := num_le hb (by omega)
  have hn := h16 (few os) v bs 4 h (by omega)
  have hlen : lenV (few os) .slice v = some (.int .i64 (bs.length : Int)) := by
    by_cases hne : bs = []
    · subst hne
      unfold bytesAt at h
      split at h
      · rfl
      · rename_i i o n c f
        split at h
        · split at h
          · split at h
            · rename_i l hl
              have : n = 0 := by
                cases l with
                | nil =>
                  cases n with
                  | zero => rfl
                  | succ n =>
                    exfalso
                    rename_i cs _
                    have key : ∀ (o : Nat) (cs : List V), cut o (n + 1) cs ≠ some [] := by
                      intro o
                      induction o with
                      | zero =>
                        intro cs hc
                        cases cs with
                        | nil => cases hc
                        | cons x cs =>
                          have hc : (match takeN n cs with | some r => some (x :: r) | none => none) = some [] := hc
                          split at hc <;> cases hc
                      | succ o ih =>
                        intro cs hc
                        cases cs with
                        | nil => cases hc
                        | cons x cs => exact ih cs hc
                    exact key _ _ hl
                | cons x l =>
                  exfalso
                  cases x with
                  | int k z =>
                    have h := (bytesL_some h).1
                    cases h
                  | _ => exact absurd (bytesL_some h).1 (by intro e; cases e)
              subst this; rfl
            · cases h
          · cases h
        · cases h
      · cases h
    · obtain ⟨i, o, c, f, own, cs, rfl, hnc, hg, hm, hcs⟩ := bytesAt_place h hne
      rfl
  have hnv : numV (num bs 4 2) = .tuple [.int .i64 (cnt bs : Int), .bool (num bs 4 2).isSome] := rfl
  rw [hnv] at hn
  by_cases c1 : bs.length < 12
  · simp (disch := omega) [hn, hlen, dlt_t]
    exact .inl ⟨3, by unfold fontS; rw [if_pos c1], rfl⟩
  obtain ⟨oV, hver⟩ := hV os v bs h (by omega)
  obtain ⟨i, o, c, f, own, cs, rfl, hnc, hg, hm, hcs⟩ := bytesAt_place h (by intro e; subst e; simp at c1)
  by_cases c2 : bs.take 4 ∈ versL
  rotate_left
  · simp (disch := omega) [hn, dlt_f, hver, c2]
    exact .inl ⟨2, by unfold fontS; rw [if_neg c1, if_pos c2], rfl⟩
  by_cases c3 : 64 < cnt bs
  · simp (disch := omega) [hn, dlt_f, dlt_t, hver, c2]
    exact .inl ⟨4, by unfold fontS; rw [if_neg c1, if_neg (by simpa using c2), if_pos c3], rfl⟩
  by_cases c4 : bs.length < 12 + cnt bs * 16
  · simp (disch := omega) [hn, dlt_f, dlt_t, hver, c2, wrap_i]
    exact .inl ⟨3, by unfold fontS; rw [if_neg c1, if_neg (by simpa using c2), if_neg c3, if_pos c4], rfl⟩
  have hfs : fontS bs = tabs bs (cnt bs) [] := by unfold fontS; rw [if_neg c1, if_neg (by simpa using c2), if_neg c3, if_neg c4]
  simp (disch := omega) [hn, dlt_f, dlt_t, hver, c2, wrap_i, fill, splice, over, newV_some, newV]
  refine wp_loop (fun k s st => ∃ L os' ps q, st = few os' ∧ FontAt os' os.length (os.length + 2) (os.length + 1) L ps q ∧ (∀ i, i < os.length → (os'[i]?).join = (os[i]?).join) ∧ L.length + k = cnt bs ∧ tabs bs k L = fontS bs ∧
    s .h = .slice (some (i, o)) 1 bs.length c f ∧ s (.i (.i .h)) = .ptr (some (os.length + 2, 0)) ∧ s (.i (.i (.o (.i (.o .h))))) = .int .i64 (cnt bs : Int) ∧ s (.o (.o (.i (.i (.o .h))))) = .int .i64 (L.length : Int)) (cnt bs) ?_ (by omega) ?_
  · refine ⟨[], _, [], os.length, rfl, ⟨?_, ?_, ?_, ?_, ?_, ?_, ?_⟩, ?_, ?_, ?_, ?_, ?_, ?_, ?_⟩ <;> try simp [tagsV, kvsOf, entsF, hfs]
    exact fun i hi => join_app hi
  · rintro k s st ⟨L, os', ps, q, rfl, hF, hsame, hk, htabs, s1, s2, s3, s4⟩
    cases k with
    | zero =>
      have hk' : L.length = cnt bs := by omega
      have h5 : fontS bs = .inr L := by rw [← htabs]; rfl
      simp (disch := omega) [s1, s2, s3, s4, hk', dlt_f]
      exact .inr ⟨L, os', _, _, ps, q, h5, rfl, rfl, hF, hsame⟩
    | succ k =>
      have hin : i < os.length := by rw [few_get] at hg; exact join_lt hg
      have hg' : (os'[i]?).join = some (.cells own cs) := by rw [hsame i hin, ← few_get]; exact hg
      have hB : bytesAt (few os') (.slice (some (i, o)) 1 bs.length c f) = some bs := bytesAt_grow h hsame
      have hN := join_lt hF.font
      obtain ⟨n, hnL⟩ : ∃ n, n = L.length := ⟨_, rfl⟩
      rw [← hnL] at hk s4
      have htag : convV (few os') .toStr (.slice (some (i, o + (12 + n * 16))) 1 4 (c - (12 + n * 16)) f) = some (.str (tagB bs n)) := by
        rw [str_part hg' hm hcs hb (12 + n * 16) (by omega), Nat.mul_comm n 16]; rfl
      have hoff : call n32 [.slice (some (i, o)) 1 bs.length c f, .int .i64 (12 + (n : Int) * 16 + 8)] (few os') = some (.tuple [.int .i64 (offB bs n : Int), .bool (num bs ((12 + 16 * n + 8 : Nat) : Int) 4).isSome], few os') := by
        rw [h32 (few os') _ bs _ hB (by omega), show (12 + (n : Int) * 16 + 8) = ((12 + 16 * n + 8 : Nat) : Int) from by omega]; rfl
      have hlb : call n32 [.slice (some (i, o)) 1 bs.length c f, .int .i64 (12 + (n : Int) * 16 + 12)] (few os') = some (.tuple [.int .i64 (lenB bs n : Int), .bool (num bs ((12 + 16 * n + 12 : Nat) : Int) 4).isSome], few os') := by
        rw [h32 (few os') _ bs _ hB (by omega), show (12 + (n : Int) * 16 + 12) = ((12 + 16 * n + 12 : Nat) : Int) from by omega]; rfl
      have ht1 : (12 + (n : Int) * 16).toNat = 12 + n * 16 := by omega
      have ht2 : (12 + (n : Int) * 16 + 4).toNat = 12 + n * 16 + 4 := by omega
      have hpart := hP (few os') _ bs (offB bs n) (lenB bs n) hB hl
      rw [show isNil (.slice (some (i, o)) 1 bs.length c f) = false from rfl] at hpart
      have hcon : ∀ A : List (Option AObj), (∀ j, j < os'.length → (A[j]?).join = (os'[j]?).join) → call nC [tagsV q L.length, .str (tagB bs n)] (few A) = some (.bool (decide (tagB bs n ∈ L.map (·.1))), few A) := by
        intro A hA
        unfold tagsV
        split
        · rename_i h0
          have : L = [] := List.length_eq_zero_iff.1 h0
          subst this
          exact hC _ _ _ _ _ _ [] _ rfl (by simp; omega) (by simp)
        · rename_i h0
          have hq := hF.tags (fun e => h0 (by rw [e]; rfl))
          have hst : strsAt (few A) (.slice (some (q, 0)) 1 L.length L.length false) (L.map (·.1)) := by
            refine ⟨Nat.le_refl _, by simp, true, strsV (L.map (·.1)), ?_, by simp [strsV], ?_⟩
            · rw [few_get, hA q (join_lt hq)]; exact hq
            · rw [List.drop_zero]
              exact List.take_of_length_le (by simp [strsV])
          exact hC _ _ _ _ _ _ _ _ hst (by simp; omega) (by simp; omega)
      have hnext : tabs bs (k + 1) L = (if tagB bs n ∈ L.map (·.1) then .inl 2 else if thereB bs.length (offB bs n) (lenB bs n) = true then tabs bs k (L ++ [(tagB bs n, cutB bs (offB bs n) (lenB bs n))]) else .inl 3) := by
        rw [hnL]; rfl
      rw [hnext] at htabs
      by_cases hth : thereB bs.length (offB bs n) (lenB bs n) = true
      · obtain ⟨t, ht⟩ : ∃ t, t = cutB bs (offB bs n) (lenB bs n) := ⟨_, rfl⟩
        obtain ⟨A, hA⟩ : ∃ A, A = os' ++ [some (newBytes t)] := ⟨_, rfl⟩
        have hAl : A.length = os'.length + 1 := by rw [hA]; simp
        have hp2 : call nP [.slice (some (i, o)) 1 bs.length c f, .int .i64 (offB bs n : Int), .int .i64 (lenB bs n : Int)] (few os') = some (.tuple [.slice (some (os'.length, 0)) 1 t.length t.length false, .bool true], few A) := by
          rw [hpart, hth, hA, ht]; exact lawOut_one
        have hAo : ∀ j, j < os'.length → (A[j]?).join = (os'[j]?).join := fun j hj => by rw [hA]; exact join_app hj
        have hc0 := hcon A hAo
        have hAf : (A[os.length + 2]?).join = some (.cells true [tagsV q L.length, .map (some (os.length + 1))]) := by rw [hAo _ hN]; exact hF.font
        have hldA : loadV (few A) false 1 (.ptr (some (os.length + 2, 0))) = some (tagsV q L.length) := (load_few hAf).trans rfl
        have hldM : loadV (few A) false 1 (.ptr (some (os.length + 2, 1))) = some (.map (some (os.length + 1))) := (load_few hAf).trans rfl
        by_cases hmem : tagB bs n ∈ L.map (·.1)
        · rw [if_pos hmem] at htabs
          rw [decide_eq_true hmem] at hc0
          simp (disch := omega) [s1, s2, s3, s4, dlt_t, dltn_t, wrap_i, slice_lohiF, shiftA_some, ht1, ht2, htag, hoff, hlb, hp2, hldA, hldM, hc0]
          exact .inl ⟨2, htabs.symm, rfl⟩
        rw [if_neg hmem, if_pos hth, ← ht] at htabs
        rw [decide_eq_false hmem] at hc0
        obtain ⟨Bm, hBm⟩ : ∃ Bm, Bm = A ++ [some (AObj.cells true [V.str (tagB bs n)])] := ⟨_, rfl⟩
        have hBl : Bm.length = os'.length + 2 := by rw [hBm]; simp [hAl]
        have hBo : ∀ j, j < os'.length → (Bm[j]?).join = (os'[j]?).join := fun j hj => by rw [hBm, join_app (by omega)]; exact hAo j hj
        have hgrow := growTags (os := Bm) (q := q) (n := n) (ts := L.map (·.1)) (tag := tagB bs n) (by simp [hnL]) (by omega) (fun h0 => by rw [hBo q (join_lt (hF.tags (fun e => h0 (by rw [hnL, e]; rfl))))]; exact hF.tags (fun e => h0 (by rw [hnL, e]; rfl)))
        rw [hBl] at hgrow
        obtain ⟨X, hX⟩ : ∃ X, X = (if n = 0 then Bm else Bm.set q none) ++ [some (AObj.cells true (strsV (L.map (·.1) ++ [tagB bs n])))] := ⟨_, rfl⟩
        rw [← hX] at hgrow
        have hXl : X.length = os'.length + 3 := by rw [hX]; split <;> simp [hBl]
        have hXo : ∀ j, j < os'.length → j ≠ q → (X[j]?).join = (os'[j]?).join := by
          intro j hj hjq
          rw [hX, join_app (by split <;> simp [hBl] <;> omega)]
          split
          · exact hBo j hj
          · rw [join_set (fun e => hjq e.symm)]; exact hBo j hj
        have hXf : (X[os.length + 2]?).join = some (.cells true [tagsV q L.length, .map (some (os.length + 1))]) := by rw [hXo _ hN (fun e => hF.ne.2.1 e.symm)]; exact hF.font
        have hstore := store_few (o := 0) (v := .slice (some (os'.length + 2, 0)) 1 (n + 1) (n + 1) false) hXf (by simp)
        rw [show [tagsV q L.length, V.map (some (os.length + 1))].set 0 (.slice (some (os'.length + 2, 0)) 1 (n + 1) (n + 1) false) = [tagsV (os'.length + 2) (n + 1), V.map (some (os.length + 1))] from rfl] at hstore
        obtain ⟨Y, hY⟩ : ∃ Y, Y = X.set (os.length + 2) (some (AObj.cells true [tagsV (os'.length + 2) (n + 1), .map (some (os.length + 1))])) := ⟨_, rfl⟩
        rw [← hY] at hstore
        have hMlt := join_lt hF.map
        have hYm : (Y[os.length + 1]?).join = some (.map true (entsF 0 (kvsOf L ps)) (kvsOf L ps).length) := by
          rw [hY, join_set (by omega), hXo _ hMlt (fun e => hF.ne.2.2.1 e.symm), kvs_len hF.len]; exact hF.map
        have hent := entry_few (zero := .slice none 0 0 0 true) (t := tagB bs n) hYm (fun kv hkv e => hmem (by rw [← kvs_keys hF.len, ← e]; exact List.mem_map_of_mem hkv))
        obtain ⟨Zm, hZ⟩ : ∃ Zm, Zm = Y.set (os.length + 1) (some (AObj.map true (entsF 0 (kvsOf L ps ++ [(tagB bs n, .slice none 0 0 0 true)])) ((kvsOf L ps).length + 1))) := ⟨_, rfl⟩
        rw [← hZ] at hent
        have hYl : Y.length = os'.length + 3 := by rw [hY]; simp [hXl]
        have hZm : (Zm[os.length + 1]?).join = some (.map true (entsF 0 (kvsOf L ps ++ [(tagB bs n, .slice none 0 0 0 true)])) ((kvsOf L ps).length + 1)) := by
          rw [hZ, join_set_same (by omega)]
        have hes := estore_few (x := .slice (some (os'.length, 0)) 1 t.length t.length false) hZm rfl
        have hW : Zm.set (os.length + 1) (some (AObj.map true (entsF 0 (kvsOf L ps ++ [(tagB bs n, .slice (some (os'.length, 0)) 1 t.length t.length false)])) ((kvsOf L ps).length + 1))) = roundOs os' (os.length + 2) (os.length + 1) L ps q (tagB bs n) t := by
          rw [hZ, List.set_set, hY, hX, hBm, hA]
          unfold roundOs
          rw [kvs_len hF.len, ← hnL]
          have : (n = 0) = (L = []) := by rw [hnL]; exact propext List.length_eq_zero_iff
          simp only [this]
        rw [hW, kvs_len hF.len, ← hnL] at hes
        rw [kvs_len hF.len, ← hnL] at hent
        obtain ⟨hR, hRold, hRlen⟩ := hF.round (tagB bs n) t
        have hfin : ∃ m, m < k + 1 ∧ ∃ L' os'' ps' q', few (roundOs os' (os.length + 2) (os.length + 1) L ps q (tagB bs n) t) = few os'' ∧ FontAt os'' os.length (os.length + 2) (os.length + 1) L' ps' q' ∧ (∀ i, i < os.length → (os''[i]?).join = (os[i]?).join) ∧ L'.length + m = cnt bs ∧ tabs bs m L' = fontS bs ∧ L'.length = n + 1 :=
          ⟨k, by omega, L ++ [(tagB bs n, t)], _, ps ++ [os'.length], os'.length + 2, rfl, hR, fun i hi => by rw [hRold i hi]; exact hsame i hi, by simp; omega, htabs, by simp [hnL]⟩
        rw [hBm] at hgrow
        have hq1 : q ≠ os.length + 2 := hF.ne.2.1
        have hq2 : q ≠ os.length + 1 := hF.ne.2.2.1
        have hfirst : firstN (few (A ++ [some (AObj.cells true [V.str (tagB bs n)])])) 1 1 (.slice (some (os'.length + 1, 0)) 1 1 1 true) = some [V.str (tagB bs n)] := by
          show sel (Nat.beq 1 1 && Nat.ble 1 1) ((few (A ++ [some (AObj.cells true [V.str (tagB bs n)])])).loadN (os'.length + 1) 0 (1 * 1)) none = _
          rw [← hAl, loadN_few (own := true) (cs := [V.str (tagB bs n)]) (by simp) (by simp)]
          rfl
        by_cases h0 : n = 0
        · have htv : tagsV q L.length = .slice none 0 0 0 true := by rw [← hnL, h0]; rfl
          rw [htv] at hldA hXf hc0
          rw [show tagsV q n = .slice none 0 0 0 true from by rw [h0]; rfl] at hgrow
          simp (disch := omega) [s1, s2, s3, s4, dlt_t, dltn_t, wrap_i, slice_lohiF, shiftA_some, ht1, ht2, htag, hoff, hlb, hp2, hldA, hldM, hc0, fill, repN, splice, over, hAl, deqn_t, deqn_f, newV, lenOf, firstNo, hfirst, hgrow, hstore, hent, hes]
          obtain ⟨m, hm, L', os'', ps', q', e1, e2, e3, e4, e5, e6⟩ := hfin
          exact ⟨m, hm, L', os'', e1, ⟨ps', q', e2⟩, e3, e4, e5, by omega⟩
        · have htv : tagsV q L.length = .slice (some (q, 0)) 1 n n false := by rw [← hnL]; unfold tagsV; rw [if_neg h0]
          rw [htv] at hldA hXf hc0
          rw [show tagsV q n = .slice (some (q, 0)) 1 n n false from by unfold tagsV; rw [if_neg h0]] at hgrow
          simp (disch := omega) [s1, s2, s3, s4, dlt_t, dltn_t, wrap_i, slice_lohiF, shiftA_some, ht1, ht2, htag, hoff, hlb, hp2, hldA, hldM, hc0, fill, repN, splice, over, hAl, deqn_t, deqn_f, newV, lenOf, firstNo, hfirst, hgrow, hstore, hent, hes]
          obtain ⟨m, hm, L', os'', ps', q', e1, e2, e3, e4, e5, e6⟩ := hfin
          exact ⟨m, hm, L', os'', e1, ⟨ps', q', e2⟩, e3, e4, e5, by omega⟩
      · have hth' : thereB bs.length (offB bs n) (lenB bs n) = false := by simpa using hth
        have hp2 : call nP [.slice (some (i, o)) 1 bs.length c f, .int .i64 (offB bs n : Int), .int .i64 (lenB bs n : Int)] (few os') = some (.tuple [.slice none 0 0 0 true, .bool false], few os') := by
          rw [hpart, hth']; rfl
        have hc0 := hcon os' fun _ _ => rfl
        have hld0 : loadV (few os') false 1 (.ptr (some (os.length + 2, 0))) = some (tagsV q L.length) := (load_few hF.font).trans rfl
        by_cases hmem : tagB bs n ∈ L.map (·.1)
        · rw [if_pos hmem] at htabs
          rw [decide_eq_true hmem] at hc0
          simp (disch := omega) [s1, s2, s3, s4, dlt_t, dltn_t, wrap_i, slice_lohiF, shiftA_some, ht1, ht2, htag, hoff, hlb, hp2, hld0, hc0]
          exact .inl ⟨2, htabs.symm, rfl⟩
        · rw [if_neg hmem, if_neg hth] at htabs
          rw [decide_eq_false hmem] at hc0
          simp (disch := omega) [s1, s2, s3, s4, dlt_t, dltn_t, wrap_i, slice_lohiF, shiftA_some, ht1, ht2, htag, hoff, hlb, hp2, hld0, hc0]
          exact .inl ⟨3, htabs.symm, rfl⟩
noncomputable def lookB (l : Sight) : V → Option (List Nat)
  | .slice none _ 0 0 _ => some []
  | .slice (some (i, o)) 1 n c _ => if n ≤ c then match l i with | some (.cells _ cs) => (match cut o n cs with | some x => bytesL x | none => none) | _ => none else none
  | _ => none
theorem lookB_mono {l l' : Sight} (h : ∀ i o, l i = some o → l' i = some o) {v : V} {bs : List Nat} (hb : lookB l v = some bs) : lookB l' v = some bs := by
  unfold lookB at hb ⊢
  split at hb
  · exact hb
  · split at hb
    · rename_i hnc
      rw [if_pos hnc]
      split at hb
      · rename_i own cs hl
        rw [h _ _ hl]
        exact hb
      · cases hb
    · cases hb
  · cases hb
theorem lookB_at {st : St} {v : V} {bs : List Nat} (hb : lookB st.look v = some bs) : bytesAt st v = some bs := by
  unfold lookB at hb
  unfold bytesAt
  split at hb
  · exact hb
  · rename_i i o n c f
    show (if n ≤ c then match st.get i with | some (.cells _ cs) => (match cut o n cs with | some l => bytesL l | none => none) | _ => none else none) = some bs
    split at hb
    · rename_i hnc
      rw [if_pos hnc]
      split at hb
      · rename_i own cs hl
        obtain ⟨_, o', h2, _, h4⟩ := look_some hl
        cases o' with
        | cells own' cs' => cases h4; rw [h2]; exact hb
        | map own' es c => cases h4
      · cases hb
    · cases hb
  · cases hb
theorem lookB_of {st : St} {i o n c : Nat} {f own : Bool} {cs : List V} {bs : List Nat} (hi : i < st.next) (hg : st.get i = some (.cells own cs)) (hgood : goods st.next cs = true) (hnc : n ≤ c) (hm : o + n ≤ cs.length) (hcs : (cs.drop o).take n = bytesV bs) (hb : ∀ b ∈ bs, b < 256) : lookB st.look (.slice (some (i, o)) 1 n c f) = some bs := by
  show (if n ≤ c then match st.look i with | some (.cells _ cs) => (match cut o n cs with | some x => bytesL x | none => none) | _ => none else none) = some bs
  rw [if_pos hnc, look_of hi hg hgood]
  show (match cut o n cs with | some x => bytesL x | none => none) = some bs
  rw [cut_of hm, hcs]
  exact bytesL_of hb
noncomputable def idsOf' (N n : Nat) : List Nat := (List.range n).map (N + ·)
noncomputable def fontObjs (N : Nat) (L : List (List Nat × List Nat)) : List AObj :=
  [AObj.cells true [tagsV (N + 2 + L.length) L.length, .map (some (N + 1))], AObj.map true (entsF 0 (kvsOf L (idsOf' (N + 2) L.length))) L.length] ++ (L.map (fun x => newBytes x.2) ++ (if L = [] then [] else [AObj.cells true (strsV (L.map (·.1)))]))
noncomputable def openA (N : Nat) (bs : List Nat) : Ans :=
  match fontS bs with
  | .inl e => ([], fun _ => errV e)
  | .inr L => (fontObjs N L, fun k => .tuple [.ptr (some (k, 0)), .int .i64 0])
noncomputable def openSpec : Nat → Sight → List V → Option Ans := fun N l args =>
  match args with
  | [v] => match lookB l v with | some bs => if bs.length ≤ 140737488354000 then some (openA N bs) else none | none => none
  | _ => none
theorem openSpec_mono : MonoN openSpec := by
  intro n l l' args a h ha
  unfold openSpec at ha ⊢
  split at ha
  · split at ha
    · rename_i bs hbs
      rw [lookB_mono h hbs]
      exact ha
    · cases ha
  · cases ha
theorem ren0_flat {m : Nat → Nat → Prop} {v : V} (h : v.flat = true) : Ren0 m v v := by
  cases v with
  | ptr a => cases a with | none => exact ⟨rfl, h⟩ | some p => cases h
  | slice a e n c f => cases a with | none => exact ⟨rfl, h⟩ | some p => cases h
  | map a => cases a with | none => exact ⟨rfl, h⟩ | some p => cases h
  | _ => exact ⟨rfl, h⟩
theorem renO_flat {m : Nat → Nat → Prop} {cs : List V} (h : ∀ v ∈ cs, v.flat = true) : RenO m (.cells true cs) (.cells true cs) :=
  ⟨Nat.le_refl _, fun k v hv => ⟨v, hv, ren0_flat (h v (List.mem_of_getElem? hv))⟩⟩
theorem strsV_flat {ts : List (List Nat)} : ∀ v ∈ strsV ts, v.flat = true := by
  intro v hv
  obtain ⟨t, _, rfl⟩ := List.mem_map.1 hv
  rfl
theorem ents_ren {m : Nat → Nat → Prop} : ∀ (L : List (List Nat × List Nat)) (ps ps' : List Nat) (n : Nat), ps.length = L.length → ps'.length = L.length → (∀ (j p p' : Nat), ps[j]? = some p → ps'[j]? = some p' → m p p') →
    All2 (fun (y y' : V × V × Nat) => Ren0 m y.1 y'.1 ∧ Ren1 m y.2.1 y'.2.1 ∧ y.2.2 = y'.2.2) (entsF n (kvsOf L ps)) (entsF n (kvsOf L ps'))
  | [], ps, ps', n, h, h', _ => by
    have : ps = [] := List.length_eq_zero_iff.1 h
    have : ps' = [] := List.length_eq_zero_iff.1 h'
    subst_vars
    trivial
  | x :: L, [], ps', n, h, _, _ => by cases h
  | x :: L, p :: ps, [], n, _, h, _ => by cases h
  | x :: L, p :: ps, p' :: ps', n, h, h', hm => by
    refine ⟨⟨⟨rfl, rfl⟩, ?_, rfl⟩, ents_ren L ps ps' (n + 1) (by simpa using h) (by simpa using h') fun j a b ha hb => hm (j + 1) a b ha hb⟩
    show Ren0 m (.slice (some (p, 0)) 1 x.2.length x.2.length false) (.slice (some (p', 0)) 1 x.2.length x.2.length false)
    exact ⟨hm 0 p p' rfl rfl, rfl, rfl, rfl, Nat.le_refl _, Nat.le_refl _, fun e => by cases e⟩
theorem nodup_at {l : List Nat} (h : l.Nodup) {j j' k : Nat} (h1 : l[j]? = some k) (h2 : l[j']? = some k) : j = j' := by
  induction l generalizing j j' with
  | nil => cases h1
  | cons x l ih =>
    rw [List.nodup_cons] at h
    cases j with
    | zero =>
      cases j' with
      | zero => rfl
      | succ j' =>
        have e : x = k := by simpa using h1
        subst e
        exact absurd (List.mem_of_getElem? (by simpa using h2)) h.1
    | succ j =>
      cases j' with
      | zero =>
        have e : x = k := by simpa using h2
        subst e
        exact absurd (List.mem_of_getElem? (by simpa using h1)) h.1
      | succ j' => rw [ih h.2 (j := j) (j' := j') (by simpa using h1) (by simpa using h2)]
theorem open_left {os os' : List (Option AObj)} {F M q : Nat} {L : List (List Nat × List Nat)} {ps : List Nat} (h : FontAt os' os.length F M L ps q) :
    ∃ σ, Left (wayId os.length) os.length (few os) (few os') (.tuple [.ptr (some (F, 0)), .int .i64 0]) (fontObjs os.length L) σ (.tuple [.ptr (some (os.length, 0)), .int .i64 0]) := by
  obtain ⟨σ, hσ⟩ : ∃ σ, σ = [F, M] ++ (ps ++ (if L = [] then [] else [q])) := ⟨_, rfl⟩
  have hF : σ[0]? = some F := by rw [hσ]; rfl
  have hM : σ[1]? = some M := by rw [hσ]; rfl
  have hp : ∀ j p, ps[j]? = some p → σ[2 + j]? = some p := by
    intro j p hj
    have := (List.getElem?_eq_some_iff.1 hj).1
    rw [hσ, List.getElem?_append_right (by simp), List.getElem?_append_left (by simpa using this)]
    simpa using hj
  have hq : L ≠ [] → σ[2 + L.length]? = some q := by
    intro hne
    rw [hσ, List.getElem?_append_right (by simp), if_neg hne, List.getElem?_append_right (by simp [h.len])]
    simp [h.len]
  have m0 : ren os.length σ F os.length := .inr ⟨0, hF, rfl⟩
  refine ⟨σ, Left.ren (by intro e; cases e) ?_ ?_ ?_ ?_⟩
  · exact ⟨⟨m0, rfl⟩, ⟨rfl, rfl⟩, trivial⟩
  · rw [hσ]; unfold fontObjs
    split <;> simp [h.len]
  · intro j k o hk ho
    unfold fontObjs at ho
    have hj := (List.getElem?_eq_some_iff.1 hk).1
    match j, hk, ho with
    | 0, hk, ho =>
      rw [hF] at hk; cases hk
      have ho : some (AObj.cells true [tagsV (os.length + 2 + L.length) L.length, .map (some (os.length + 1))]) = some o := ho
      cases ho
      refine ⟨h.lo.1, AObj.cells true [tagsV q L.length, .map (some M)], by rw [few_heap]; exact h.font, Nat.le_refl _, fun k v hv => ?_⟩
      match k, hv with
      | 0, hv =>
        cases hv
        refine ⟨_, rfl, ?_⟩
        unfold tagsV
        split
        · exact ⟨rfl, rfl⟩
        · rename_i h0
          exact ⟨.inr ⟨2 + L.length, hq (fun e => h0 (by rw [e]; rfl)), by omega⟩, rfl, rfl, rfl, Nat.le_refl _, Nat.le_refl _, fun e => by cases e⟩
      | 1, hv =>
        cases hv
        exact ⟨_, rfl, .inr ⟨1, hM, rfl⟩⟩
      | k + 2, hv => cases hv
    | 1, hk, ho =>
      rw [hM] at hk; cases hk
      have ho : some (AObj.map true (entsF 0 (kvsOf L (idsOf' (os.length + 2) L.length))) L.length) = some o := ho
      cases ho
      refine ⟨h.lo.2.1, AObj.map true (entsF 0 (kvsOf L ps)) L.length, by rw [few_heap]; exact h.map, rfl, ?_⟩
      refine ents_ren L ps (idsOf' (os.length + 2) L.length) 0 h.len (by simp [idsOf']) fun j p p' hj hj' => .inr ⟨2 + j, hp j p hj, ?_⟩
      unfold idsOf' at hj'
      rw [List.getElem?_map] at hj'
      have hjl : j < L.length := by rw [← h.len]; exact (List.getElem?_eq_some_iff.1 hj).1
      rw [List.getElem?_range hjl] at hj'
      have : os.length + 2 + j = p' := by simpa using hj'
      omega
    | j + 2, hk, ho =>
      rw [show j + 2 = [AObj.cells true [tagsV (os.length + 2 + L.length) L.length, .map (some (os.length + 1))], AObj.map true (entsF 0 (kvsOf L (idsOf' (os.length + 2) L.length))) L.length].length + j from by simp; omega, List.getElem?_append_right (by omega)] at ho
      simp only [Nat.add_sub_cancel_left] at ho
      rcases Nat.lt_or_ge j L.length with hjl | hjl
      · obtain ⟨p, hpj⟩ : ∃ p, ps[j]? = some p := ⟨_, List.getElem?_eq_getElem (by rw [h.len]; exact hjl)⟩
        have hx := List.getElem?_eq_getElem hjl
        have e1 := hp j p hpj
        rw [Nat.add_comm] at e1
        rw [e1] at hk
        cases hk
        rw [List.getElem?_append_left (by simpa using hjl), List.getElem?_map, hx] at ho
        cases ho
        exact ⟨h.lo.2.2.2 _ (List.mem_of_getElem? hpj), _, by rw [few_heap]; exact h.tabs j _ _ hpj hx, renO_flat bytesV_flat⟩
      · have hne : L ≠ [] := by
          intro e
          rw [hσ, if_pos e] at hj
          simp [h.len] at hj
          omega
        rw [List.getElem?_append_right (by simpa using hjl), if_neg hne] at ho
        have hjn : j = L.length := by
          rw [hσ, if_neg hne] at hj
          simp [h.len] at hj
          omega
        subst hjn
        have e1 := hq hne
        rw [Nat.add_comm] at e1
        rw [e1] at hk
        cases hk
        simp at ho
        subst ho
        exact ⟨h.lo.2.2.1, _, by rw [few_heap]; exact h.tags hne, renO_flat strsV_flat⟩
  · have hnd : σ.Nodup := by
      obtain ⟨n1, n2, n3, n4, n5, n6, n7⟩ := h.ne
      rw [hσ]
      split
      · simp [n1, n4, n5, n7]
      · rw [List.nodup_append]
        refine ⟨by simp [n1], ?_, ?_⟩
        · rw [List.nodup_append]
          exact ⟨n7, by simp, fun a ha b hb => by simp at hb; subst hb; exact fun e => n6 (e ▸ ha)⟩
        · intro a ha b hb
          simp at ha hb
          rcases ha with rfl | rfl <;> rcases hb with hb | rfl
          · exact fun e => n4 (e ▸ hb)
          · exact fun e => n2 e.symm
          · exact fun e => n5 (e ▸ hb)
          · exact fun e => n3 e.symm
    intro j j' k hj hj'
    obtain ⟨a, ha⟩ := List.getElem?_eq_some_iff.1 hj
    obtain ⟨b, hb⟩ := List.getElem?_eq_some_iff.1 hj'
    exact nodup_at hnd hj hj'
theorem Open_sound {P : Program} {call : CallT} (hmix : P.follows .mixedOrders = true) (hs : Sound P call) {g lf' n16 nV n32 nP nC : Nat} (hlf' : 66 ≤ lf') (h16 : UF 2 call n16) (h32 : UF 4 call n32) (hP : PartF call nP) (hV : VersF call nV) (hC : ContF lf' call nC)
    (hc : compF P g = some (Open_c n16 nV n32 nP nC)) : Sound P (withL call g (lawOf (sightRdN openSpec))) := by
  refine hs.sightN hmix 100 hc openSpec_mono fun os args new f hg hx => ?_
  unfold openSpec at hx
  split at hx
  · rename_i v
    split at hx
    · rename_i bs hbs
      split at hx
      · rename_i hl
        have hx : openA os.length bs = (new, f) := Option.some.inj hx
        have hnew : new = (openA os.length bs).1 := by rw [hx]
        have hff : f = (openA os.length bs).2 := by rw [hx]
        subst hnew hff
        obtain ⟨w, st', h1, h2⟩ := Open_run (lf := 100) (by omega) hlf' h16 h32 hP hV hC (lookB_at hbs) hl
        rcases h2 with ⟨e, h3, rfl⟩ | ⟨L, os', F, M, ps, q, h3, rfl, rfl, h4, _⟩
        · refine ⟨st', _, [], h1, ?_⟩
          unfold openA
          rw [h3]
          exact Left.flat rfl
        · obtain ⟨σ, hσ⟩ := open_left h4
          refine ⟨_, _, σ, h1, ?_⟩
          unfold openA
          rw [h3]
          exact hσ
      · cases hx
    · cases hx
  · cases hx
def OpenF (call : CallT) (g : Nat) : Prop := ∀ os v bs, v.good os.length = true → lookB (few os).look v = some bs → bs.length ≤ 140737488354000 → call g [v] (few os) = some ((openA os.length bs).2 os.length, few (os ++ (openA os.length bs).1.map some))
theorem open_fact {call : CallT} {g : Nat} : OpenF (withL call g (lawOf (sightRdN openSpec))) g := by
  intro os v bs hg hb hl
  rw [sightN_call (by simp [goods, hg, few_next])]
  unfold openSpec
  dsimp only
  rw [hb]
  dsimp only
  rw [if_pos hl]
  exact lawOut_few
end Go.Vabs.Sb

namespace Go.Vabs.Sc
set_option linter.unusedVariables false
set_option linter.unusedSimpArgs false
set_option maxRecDepth 10000
def Big_c : AFunc := AFunc.mk 23 (.seq (.reg [AOper.mk (some (.i (.o .h))) (.mv (.c (.slice none 0 0 0 true))) none]) (.seq (.reg [AOper.mk (some (.o (.i .h))) (.mv (.c (.slice none 0 0 0 true))) none]) (.seq (.seq (.reg [AOper.mk (some (.i (.o (.o .h)))) (.bin .sub (.val .int) (.t (.o .h)) (.c (.int .i64 (.ofNat 1)))) none, AOper.mk (some (.i (.i .h))) (.mv (.t (.i (.o (.o .h))))) none]) (.block 0 (.loop (.seq (.seq (.reg [AOper.mk (some (.i (.i (.o .h)))) (.bin .geq (.val .int) (.t (.i (.i .h))) (.c (.int .i64 (.ofNat 0)))) none]) (.cond (.t (.i (.i (.o .h)))) .skip (.exit 0))) (.seq (.block 1 (.reg [AOper.mk (some (.i (.o (.o (.o .h))))) (.bin .mul (.val .int) (.c (.int .i64 (.ofNat 8))) (.t (.i (.i .h)))) none, AOper.mk (some (.o (.i (.o (.o .h))))) (.conv (.int .u64) (.t (.i (.o (.o (.o .h)))))) none, AOper.mk (some (.i (.i (.o (.o .h))))) (.bin .shr (.val .int) (.t .h) (.t (.o (.i (.o (.o .h)))))) none, AOper.mk (some (.o (.o (.i (.o .h))))) (.conv (.int .u8) (.t (.i (.i (.o (.o .h)))))) none, AOper.mk (some (.i (.o (.i (.o .h))))) (.bslice 1 1 [.int .u8 (.ofNat 0)] [(0, (1, .t (.o (.o (.i (.o .h))))))]) none, AOper.mk (some (.o (.i (.i (.o .h))))) (.append 1 1 (.t (.o (.i .h))) (.t (.i (.o (.i (.o .h)))))) none, AOper.mk (some (.o (.i .h))) (.mv (.t (.o (.i (.i (.o .h)))))) none])) (.reg [AOper.mk (some (.i (.o (.i .h)))) (.bin .sub (.val .int) (.t (.i (.i .h))) (.c (.int .i64 (.ofNat 1)))) none, AOper.mk (some (.i (.i .h))) (.mv (.t (.i (.o (.i .h))))) none])))))) (.seq (.reg [AOper.mk (some (.i (.o .h))) (.mv (.t (.o (.i .h)))) none]) .ret)))) [.tmp (.i (.o .h))]
def Table_c (n_Clone : Nat) : AFunc := AFunc.mk 20 (.seq (.reg [AOper.mk (some (.i (.o .h))) (.mv (.c (.slice none 0 0 0 true))) none, AOper.mk (some (.o (.i .h))) (.mv (.c (.bool false))) none]) (.seq (.reg [AOper.mk (some (.i (.i (.o .h)))) (.nilchk (.t .h)) none, AOper.mk (some (.o (.o (.i .h)))) (.fieldAddr 1 (.t (.i (.i (.o .h))))) none, AOper.mk (some (.i (.o (.i .h)))) (.load false 1 (.t (.o (.o (.i .h))))) none, AOper.mk (some (.i (.i (.i .h)))) (.lookup none (.slice none 0 0 0 true) (.t (.i (.o (.i .h)))) (.t (.o .h)) true) none, AOper.mk (some (.o (.o (.o (.o .h))))) (.extract (.t (.i (.i (.i .h)))) 0) none, AOper.mk (some (.i (.o (.o (.o .h))))) (.extract (.t (.i (.i (.i .h)))) 1) none, AOper.mk (some (.i (.i .h))) (.mv (.t (.o (.o (.o (.o .h)))))) none, AOper.mk (some (.o (.o (.o .h)))) (.mv (.t (.i (.o (.o (.o .h)))))) none]) (.seq (.reg [AOper.mk (some (.i (.i (.o (.o .h))))) (.call n_Clone [.t (.i (.i .h))]) none, AOper.mk (some (.i (.o .h))) (.mv (.t (.i (.i (.o (.o .h)))))) none, AOper.mk (some (.o (.i .h))) (.mv (.t (.o (.o (.o .h))))) none]) .ret))) [.tmp (.i (.o .h)), .tmp (.o (.i .h))]
attribute [local simp] wp_skip wp_ret wp_exit wp_reg wp_seq wp_cond wp_block thenQ_normal thenQ_ret thenQ_exit blockQ_normal blockQ_ret blockQ_exit wpCond_true wpCond_false wpOps_nil wpVal_some wpGuard_true wpGuard_false wpOps_guard wpOps_cons
  put_at put_no ev_c ev_slot posEq_h posEq_o posEq_i posEq_ho posEq_hi posEq_oh posEq_ih posEq_oi posEq_io sel_true sel_false
  okv_some step_mv step_call step_pick pickV_bool step_bin bin_add bin_sub bin_mul bin_eql bin_neq bin_lss bin_leq bin_gtr bin_geq bin_eqb bin_neb bin_eqs bin_nes step_un un_not un_neg step_len len_slice len_str len_const step_extract extractV nth step_convInt conv_int step_convStr step_slice step_idxAddr natOf_nat step_load step_index step_field step_fieldAddr step_build step_minmax
  step_alloc step_bslice bsliceV_some newV_some step_store step_append boolIs_b boolIs_t finQ_ret finQ_normal ressE_nil ressE_cons resE_tmp consO_some initE_nil initE_cons pos_0 pos_1 pos_2 pos_3 pos_4 pos_5 pos_6 pos_7 pos_8 plain_bool plain_int plain_str plain_ptr plain_slice plain_map plain_agg plain_func plain_nilFunc V.undef oneOf_one oneOf_two ble_self
open Go.Vabs.Pk Go.Vabs.Ph Go.Vabs.Sa Go.Vabs.Sb
attribute [local simp] step_nilchk nilchk_ptr step_mkmap step_lookup step_mapEntry step_entryStore step_box cells_int cells_bool cells_str cells_slice cells_ptr cells_agg few_alloc lawOut_nil lawOut_one fieldAddrV natOf_zero fill repN splice over newV
theorem grow_fix {os : List (Option AObj)} {p n c m : Nat} {cs new : List V} (hp : (os[p]?).join = some (.cells true cs)) (hn : n = cs.length) (hm : new.length = m + 1) (hs : n + m < 70368744177664) :
    appendV (few os) 1 1 (.slice (some (p, 0)) 1 n n true) (some (m + 1)) (some new) = some (.slice (some (os.length, 0)) 1 (n + (m + 1)) (n + (m + 1)) false, few (os ++ [some (.cells true (cs ++ new))])) := by
  show valOf (appendOp (few os) 1 1 (.slice (some (p, 0)) 1 n n true) (m + 1) new) = _
  unfold appendOp
  dsimp only
  rw [few_get, hp, Nat.beq_refl, sel_true, show Nat.ble (n + (m + 1)) n = false from by
    cases e : Nat.ble (n + (m + 1)) n with
    | false => rfl
    | true => exact absurd (Nat.le_of_ble_eq_true e) (by omega)]
  rw [ble_t (show (2 * (n + (m + 1)) + 1024) * 1 ≤ 281474976710656 by omega), show Nat.beq new.length ((m + 1) * 1) = true from by rw [hm, Nat.mul_one]; exact Nat.beq_refl _]
  dsimp only [Bool.and_self, sel_true, sel_false]
  rw [show cut 0 (n * 1) cs = some cs from by rw [cut_of (by omega), List.drop_zero, Nat.mul_one, hn, List.take_length]]
  dsimp only
  rw [few_alloc]
  rfl
structure Grown (os os' : List (Option AObj)) (p p' : Nat) (bs : List Nat) : Prop where
  at' : (os'[p']?).join = some (newBytes bs)
  old : ∀ i, i < os.length → i ≠ p → (os'[i]?).join = (os[i]?).join
  new : p' = p ∨ os.length ≤ p'
  len : os.length ≤ os'.length
theorem growB {os : List (Option AObj)} {p : Nat} {bs nb : List Nat} (hp : (os[p]?).join = some (newBytes bs)) (hs : bs.length + nb.length < 140737488354000) :
    ∃ p' os', appendV (few os) 1 1 (.slice (some (p, 0)) 1 bs.length bs.length false) (some nb.length) (some (bytesV nb)) = some (.slice (some (p', 0)) 1 (bs.length + nb.length) (bs.length + nb.length) false, few os') ∧ Grown os os' p p' (bs ++ nb) := by
  cases nb with
  | nil => exact ⟨p, os, rfl, ⟨by rw [List.append_nil]; exact hp, fun _ _ _ => rfl, .inl rfl, Nat.le_refl _⟩⟩
  | cons b nb =>
    have ho : ownAt os p = some (bytesV bs) := by rw [ownAt_eq, hp]; rfl
    have hlt := join_lt hp
    refine ⟨os.length, os.set p none ++ [some (AObj.cells true (bytesV bs ++ bytesV (b :: nb)))], ?_, ⟨?_, fun i hi hne => ?_, .inr (Nat.le_refl _), ?_⟩⟩
    · show appendV (few os) 1 1 (.slice (some (p, 0)) 1 bs.length bs.length false) (some (nb.length + 1)) (some (bytesV (b :: nb))) = _
      rw [grow_some, ho, growC_some, if_pos (by simp only [bytesV_len, List.length_cons] at hs ⊢; omega)]
      rfl
    · show ((os.set p none ++ [some (AObj.cells true (bytesV bs ++ bytesV (b :: nb)))])[os.length]?).join = _
      rw [List.getElem?_append_right (by simp)]
      simp [newBytes, bytesV]
    · show ((os.set p none ++ [some (AObj.cells true (bytesV bs ++ bytesV (b :: nb)))])[i]?).join = _
      rw [join_app (by simpa using hi), join_set (fun e => hne e.symm)]
    · show os.length ≤ (os.set p none ++ [some (AObj.cells true (bytesV bs ++ bytesV (b :: nb)))]).length
      simp
theorem first_own {os : List (Option AObj)} {p c : Nat} {f : Bool} {bs : List Nat} (hp : (os[p]?).join = some (newBytes bs)) : firstN (few os) 1 bs.length (.slice (some (p, 0)) 1 bs.length c f) = some (bytesV bs) := by
  show sel (Nat.beq 1 1 && Nat.ble bs.length bs.length) ((few os).loadN p 0 (bs.length * 1)) none = _
  rw [loadN_few hp (by rw [bytesV_len]; omega), ble_t (Nat.le_refl _), List.drop_zero, Nat.mul_one, ← bytesV_len, List.take_length]
  rfl
theorem step_appendZ {call : CallT} {s : Env} {st : St} {e bytes : Nat} {zs : List V} {d n : Src} : stepE call (.appendZ e bytes zs d n) s st = (match natOf (s.ev n) with | some m => appendV st e bytes (s.ev d) (some m) (some (repN m zs)) | none => none) := by
  show (match ex_appendZ e bytes zs d n s.ev st with | some (.val v, st') => _ | some (.enter g args, st') => _ | none => _) = _
  unfold ex_appendZ appendV
  cases natOf (s.ev n) with
  | none => rfl
  | some m =>
    dsimp only
    rw [appendF_eq]
    cases h : appendOp st e bytes (s.ev d) m (repN m zs) with
    | none => rfl
    | some p =>
      obtain ⟨r, s1⟩ := p
      obtain ⟨v, rfl⟩ := appendOp_val h
      rfl
def bigB (n : Nat) : Nat → List Nat
  | 0 => []
  | z + 1 => n / 256 ^ z % 256 :: bigB n z
theorem bigB_len (n : Nat) : ∀ z, (bigB n z).length = z
  | 0 => rfl
  | z + 1 => by show (bigB n z).length + 1 = z + 1; rw [bigB_len n z]
theorem bigB_lt (n : Nat) : ∀ z, ∀ b ∈ bigB n z, b < 256
  | 0, b, h => by cases h
  | z + 1, b, h => by
    rcases List.mem_cons.1 h with rfl | h
    · exact Nat.mod_lt _ (by omega)
    · exact bigB_lt n z b h
theorem be_bigB (n : Nat) : ∀ z, be (bigB n z) = n % 256 ^ z
  | 0 => by rw [Nat.pow_zero, Nat.mod_one]; rfl
  | z + 1 => by
    have key : ∀ (l : List Nat) (a : Nat), l.foldl (fun n b => n * 256 + b) a = a * 256 ^ l.length + be l := by
      intro l
      induction l with
      | nil => intro a; simp [be]
      | cons b l ih =>
        intro a
        show l.foldl (fun n b => n * 256 + b) (a * 256 + b) = a * 256 ^ (l.length + 1) + l.foldl (fun n b => n * 256 + b) (0 * 256 + b)
        rw [ih, ih (0 * 256 + b), Nat.pow_succ, Nat.zero_mul, Nat.zero_add, Nat.add_mul, Nat.mul_assoc, Nat.mul_comm 256 (256 ^ l.length), Nat.add_assoc]
    show (bigB n z).foldl (fun n b => n * 256 + b) (0 * 256 + n / 256 ^ z % 256) = _
    rw [key, be_bigB n z, bigB_len, Nat.zero_mul, Nat.zero_add, Nat.pow_succ, Nat.mod_mul]
    rw [Nat.mul_comm, Nat.add_comm]
theorem bigB_at (n : Nat) : ∀ (z j : Nat), j < z → (bigB n z)[z - (j + 1)]? = some (n / 256 ^ j % 256)
  | 0, j, h => by omega
  | z + 1, j, h => by
    rcases Nat.lt_or_ge j z with hj | hj
    · rw [show z + 1 - (j + 1) = (z - (j + 1)) + 1 from by omega]
      show (bigB n z)[z - (j + 1)]? = _
      exact bigB_at n z j hj
    · have : j = z := by omega
      subst this
      rw [Nat.sub_self]
      rfl
theorem wrap_u64P {x : Int} (h0 : 0 ≤ x) (h1 : x < 18446744073709551616) : wrapV .u64 x = x := by
  obtain ⟨m, rfl⟩ : ∃ m : Nat, x = (m : Int) := ⟨x.toNat, by omega⟩
  exact wrap_u64 (by omega)
theorem shr_n {eq : EqKind} {a m : Nat} {x : Int} (hx : x = (m : Int)) (hm : m ≤ 63) : binV .shr eq (.int .i64 (a : Int)) (.int .u64 x) = some (.int .i64 ((a / 2 ^ m : Nat) : Int)) := by
  subst hx
  refine (bin_shr (n := m)).trans ?_
  rw [show Nat.ble m (bitsOf .i64) = true from ble_t (show m ≤ 64 by omega)]
  show some (V.int .i64 (Int.fdiv (a : Int) ((2 ^ m : Nat) : Int))) = _
  rw [show Int.fdiv (a : Int) ((2 ^ m : Nat) : Int) = ((a / 2 ^ m : Nat) : Int) from by rw [Int.fdiv_eq_ediv_of_nonneg _ (Int.natCast_nonneg _)]; rfl]
theorem Big_run {call : CallT} {lf n z : Nat} (hlf : 10 ≤ lf) (hz : z ≤ 8) (hz0 : 0 < z) : ∃ os p, enterF call lf [.int .i64 (n : Int), .int .i64 (z : Int)] (few []) Big_c = some (.slice (some (p, 0)) 1 z z false, few os) ∧ (os[p]?).join = some (newBytes (bigB n z)) := by
  have main := enter_wp (call := call) (lf := lf) (n := 23) (args := [.int .i64 (n : Int), .int .i64 (z : Int)]) (st := few []) (K := fun v st => ∃ os p, v = .slice (some (p, 0)) 1 z z false ∧ st = few os ∧ (os[p]?).join = some (newBytes (bigB n z))) (c := Big_c.code) (rs := Big_c.results) ?_
  · obtain ⟨v, st', h1, os, p, rfl, rfl, h2⟩ := main
    exact ⟨os, p, h1, h2⟩
  · unfold Big_c
    dsimp only
    simp (disch := omega) [wrap_i]
    refine wp_loop (fun k s st => ∃ os p x, st = few os ∧ k ≤ z ∧ x = (k : Int) - 1 ∧ s .h = .int .i64 (n : Int) ∧ s (.i (.i .h)) = .int .i64 x ∧ (k = z → s (.o (.i .h)) = .slice none 0 0 0 true) ∧ (k < z → s (.o (.i .h)) = .slice (some (p, 0)) 1 (z - k) (z - k) false ∧ (os[p]?).join = some (newBytes ((bigB n z).take (z - k))))) z ?_ (by omega) ?_
    · refine ⟨[], 0, (z : Int) - 1, rfl, Nat.le_refl _, rfl, ?_, ?_, ?_, ?_⟩ <;> simp
    · rintro k s st ⟨os, p, x, rfl, hk, hx, s1, s2, s3, s4⟩
      cases k with
      | zero =>
        obtain ⟨s4, s5⟩ := s4 hz0
        simp (disch := omega) [s1, s2, s4, dle_f]
        rw [Nat.sub_zero, List.take_of_length_le (by rw [bigB_len]; omega)] at s5
        exact ⟨os, rfl, s5⟩
      | succ j =>
        have hx' : x = (j : Int) := by omega
        obtain ⟨d, hd⟩ : ∃ d, d = n / 2 ^ (8 * j) := ⟨_, rfl⟩
        have hsh : binV .shr (.val .int) (.int .i64 (n : Int)) (.int .u64 (8 * x)) = some (.int .i64 (d : Int)) := by rw [hd]; exact shr_n (by omega) (by omega)
        have hpw : d % 256 = n / 256 ^ j % 256 := by rw [hd, Nat.pow_mul]
        have hat := bigB_at n z j (by omega)
        obtain ⟨b, hb⟩ : ∃ b, b = n / 256 ^ j % 256 := ⟨_, rfl⟩
        have hw8 : wrapV .u8 (d : Int) = (b : Int) := by rw [hb, ← hpw]; rfl
        rw [← hb] at hat
        obtain ⟨A, hA⟩ : ∃ A, A = os ++ [some (AObj.cells true [V.int .u8 (b : Int)])] := ⟨_, rfl⟩
        have hfi : firstN (few A) 1 1 (.slice (some (os.length, 0)) 1 1 1 true) = some (bytesV [b]) := first_own (bs := [b]) (by rw [hA]; simp [newBytes, bytesV])
        have hal : (few os).alloc (AObj.cells true [V.int .u8 (b : Int)]) = some (os.length, few A) := by rw [hA]; exact few_alloc _ _
        rcases Nat.lt_or_ge (j + 1) z with hlt | hge
        · obtain ⟨s5, s6⟩ := s4 hlt
          have hp := join_lt s6
          have hAp : (A[p]?).join = some (newBytes ((bigB n z).take (z - (j + 1)))) := by rw [hA, join_app hp]; exact s6
          obtain ⟨p', os', hgr, hG⟩ := growB (nb := [b]) hAp (by simp; omega)
          have htl : ((bigB n z).take (z - (j + 1))).length = z - (j + 1) := by rw [List.length_take, bigB_len]; omega
          rw [htl] at hgr
          have hne : ((bigB n z).take (z - (j + 1))) ++ [b] = (bigB n z).take (z - j) := by
            rw [show z - j = z - (j + 1) + 1 from by omega, List.take_add_one, hat]; rfl
          rw [hne] at hG
          have hgr : appendV (few A) 1 1 (.slice (some (p, 0)) 1 (z - (j + 1)) (z - (j + 1)) false) (some 1) (some (bytesV [b])) = some (.slice (some (p', 0)) 1 (z - j) (z - j) false, few os') := by
            rw [show z - j = z - (j + 1) + 1 from by omega]; exact hgr
          simp (disch := omega) [-few_alloc, s1, s2, s5, dle_t, wrap_i, wrap_u64P, hsh, hw8, hal, lenOf, firstNo, hfi, hgr]
          exact ⟨j, by omega, os', rfl, by omega, hx', by omega, p', fun _ => ⟨⟨rfl, rfl⟩, hG.at'⟩⟩
        · have hz' : j + 1 = z := by omega
          have s5 := s3 hz'
          have hgr : appendV (few A) 1 1 (.slice none 0 0 0 true) (some 1) (some (bytesV [b])) = some (.slice (some (A.length, 0)) 1 1 1 false, few (A ++ [some (.cells true (bytesV [b]))])) := by
            rw [grow_none, if_pos (by simp [bytesV])]
          simp (disch := omega) [-few_alloc, s1, s2, s5, dle_t, wrap_i, wrap_u64P, hsh, hw8, hal, lenOf, firstNo, hfi, hgr]
          refine ⟨j, by omega, _, rfl, by omega, hx', by omega, A.length, fun _ => ⟨⟨rfl, by omega⟩, ?_⟩⟩
          rw [show z - (j + 1) = 0 from by omega] at hat
          rw [show z - j = 0 + 1 from by omega, List.take_add_one, hat]
          simp [newBytes]
noncomputable def bigS : List V → Option Ans
  | [.int .i64 n, .int .i64 z] => if 0 ≤ n ∧ 0 < z ∧ z ≤ 8 then some ([newBytes (bigB n.toNat z.toNat)], fun k => .slice (some (k, 0)) 1 z.toNat z.toNat false) else none
  | _ => none
theorem Big_sound {P : Program} {call : CallT} (hmix : P.follows .mixedOrders = true) (hs : Sound P call) {g : Nat} (hc : compF P g = some Big_c) : Sound P (withL call g (lawOf (flatRd bigS))) := by
  refine hs.flat hmix 10 hc fun args new f hx => ?_
  unfold bigS at hx
  split at hx
  · rename_i n z
    split at hx
    · rename_i hnz
      cases hx
      obtain ⟨os, p, h1, h2⟩ := Big_run (call := call) (lf := 10) (n := n.toNat) (z := z.toNat) (by omega) (by omega) (by omega)
      rw [show ((n.toNat : Nat) : Int) = n from by omega, show ((z.toNat : Nat) : Int) = z from by omega] at h1
      exact ⟨_, _, [p], h1, fun k => Left.cells bytesV_flat (Nat.le_refl _) (Nat.zero_le _) (by rw [few_heap]; exact h2)⟩
    · cases hx
  · cases hx
def BigF (call : CallT) (g : Nat) : Prop := ∀ os (n z : Nat), 0 < z → z ≤ 8 → call g [.int .i64 (n : Int), .int .i64 (z : Int)] (few os) = some (.slice (some (os.length, 0)) 1 z z false, few (os ++ [some (newBytes (bigB n z))]))
theorem big_fact {call : CallT} {g : Nat} : BigF (withL call g (lawOf (flatRd bigS))) g := by
  intro os n z h1 h2
  rw [flat_call rfl]
  unfold bigS
  dsimp only
  rw [if_pos (by omega), Int.toNat_natCast, Int.toNat_natCast]
  exact lawOut_one
theorem lookup_at {os : List (Option AObj)} {M c k : Nat} {own : Bool} {kvs : List (List Nat × V)} {t : List Nat} {v zero : V} (hM : (os[M]?).join = some (.map own (entsF 0 kvs) c)) (hk : kvs[k]? = some (t, v)) (hne : ∀ j, j < k → ∀ kv, kvs[j]? = some kv → kv.1 ≠ t) :
    lookupV (few os) none zero (.map (some M)) (.str t) true = some (.tuple [v, .bool true]) := by
  unfold lookupV
  rw [mapOf_few hM]
  show sel true _ _ = _
  rw [sel_true]
  dsimp only
  rw [find_at kvs 0 0 k hk hne]
  rfl
theorem lookup_no {os : List (Option AObj)} {M c : Nat} {own : Bool} {kvs : List (List Nat × V)} {t : List Nat} {zero : V} (hM : (os[M]?).join = some (.map own (entsF 0 kvs) c)) (hne : ∀ kv ∈ kvs, kv.1 ≠ t) :
    lookupV (few os) none zero (.map (some M)) (.str t) true = some (.tuple [zero, .bool false]) := by
  unfold lookupV
  rw [mapOf_few hM]
  show sel true _ _ = _
  rw [sel_true]
  dsimp only
  rw [find_no kvs 0 0 hne]
  rfl
def CloneN (call : CallT) (g : Nat) : Prop := ∀ st, call g [.slice none 0 0 0 true] st = some (.slice none 0 0 0 true, st)
theorem CloneN.code {base : CallT} {g lf : Nat} : CloneN (Vabs.withF base g lf Clone_c) g := fun st => by
  rw [withF_same]
  refine enter_eq ?_
  simp [bin_eqnil2]
theorem Table_no {call : CallT} {lf nC : Nat} (hC : CloneN call nC) {os : List (Option AObj)} {F M c : Nat} {o1 o2 : Bool} {tv : V} {kvs : List (List Nat × V)} {t : List Nat} (hF : (os[F]?).join = some (.cells o1 [tv, .map (some M)])) (hM : (os[M]?).join = some (.map o2 (entsF 0 kvs) c))
    (hne : ∀ kv ∈ kvs, kv.1 ≠ t) : enterF call lf [.ptr (some (F, 0)), .str t] (few os) (Table_c nC) = some (.tuple [.slice none 0 0 0 true, .bool false], few os) := by
  have h1 := lookup_no (zero := .slice none 0 0 0 true) hM hne
  have h2 : loadV (few os) false 1 (.ptr (some (F, 1))) = some (.map (some M)) := (load_few hF).trans rfl
  refine enter_eq ?_
  simp [h2, h1, hC (few os)]
end Go.Vabs.Sc

namespace Go.Vabs.Sd
open Go.Vabs.Pk Go.Vabs.Sb Go.Vabs.Sc
set_option linter.unusedVariables false
theorem drop_l {l r : List Nat} {k : Nat} (h : l.length = k) : (l ++ r).drop k = r := by subst h; exact List.drop_left
theorem num_drop {bs : List Nat} {m z : Nat} (h : m + z ≤ bs.length) : num bs (m : Int) z = some (be ((bs.drop m).take z)) := by
  unfold num
  rw [if_pos (thereB_true.2 (by omega)), Int.toNat_natCast]
theorem be_big4 {v : Nat} (h : v < 4294967296) : be (bigB v 4) = v := by rw [be_bigB]; exact Nat.mod_eq_of_lt (by omega)
end Go.Vabs.Sd
