/- Lemmas for this claim, text Sh. No condition. -/
import Derived.Test.YtcgiiomghmffbaaVabsSe
import Derived.Test.YtcgiiomghmffbaaVabsSb
namespace Go.Vabs.Sh
set_option linter.unusedVariables false
set_option linter.unusedSimpArgs false
set_option maxRecDepth 10000
attribute [local simp] wp_skip wp_ret wp_exit wp_reg wp_seq wp_cond wp_block thenQ_normal thenQ_ret thenQ_exit blockQ_normal blockQ_ret blockQ_exit wpCond_true wpCond_false wpOps_nil wpVal_some wpGuard_true wpGuard_false wpOps_guard wpOps_cons
  put_at put_no ev_c ev_slot posEq_h posEq_o posEq_i posEq_ho posEq_hi posEq_oh posEq_ih posEq_oi posEq_io sel_true sel_false
  okv_some step_mv step_call step_pick pickV_bool step_bin bin_add bin_sub bin_mul bin_eql bin_neq bin_lss bin_leq bin_gtr bin_geq bin_eqb bin_neb bin_eqs bin_nes step_un un_not un_neg step_len len_slice len_str len_const step_extract extractV nth step_convInt conv_int step_convStr step_slice step_idxAddr natOf_nat step_load step_index step_field step_fieldAddr step_build step_minmax
  step_alloc step_bslice bsliceV_some newV_some step_store step_append boolIs_b boolIs_t finQ_ret finQ_normal ressE_nil ressE_cons resE_tmp consO_some initE_nil initE_cons pos_0 pos_1 pos_2 pos_3 pos_4 pos_5 pos_6 pos_7 pos_8 plain_bool plain_int plain_str plain_ptr plain_slice plain_map plain_agg plain_func plain_nilFunc V.undef oneOf_one oneOf_two ble_self
open Go.Vabs.Pk Go.Vabs.Ph Go.Vabs.Sa Go.Vabs.Sb Go.Vabs.Sc Go.Vabs.Sg
attribute [local simp] fieldAddrV natOf_zero step_appendZ
theorem first_bytes {st : St} {v : V} {bs : List Nat} (h : bytesAt st v = some bs) : lenOf v = some bs.length ∧ firstN st 1 bs.length v = some (bytesV bs) := by
  by_cases hne : bs = []
  · subst hne
    have hl := len_bytes (st' := st) h
    cases v with
    | slice a e n c f =>
      have hn : n = 0 := by
        have : (n : Int) = 0 := by
          have hl : some (V.int .i64 (n : Int)) = some (V.int .i64 ((0 : Nat) : Int)) := hl
          simpa using hl
        omega
      subst hn
      refine ⟨rfl, ?_⟩
      cases a with
      | none => rfl
      | some p =>
        obtain ⟨i, o⟩ := p
        unfold bytesAt at h
        split at h
        · rename_i h1; cases h1
        · rename_i i o n c f h1
          cases h1
          split at h
          · split at h
            · rename_i own cs hg
              show sel (Nat.beq 1 1 && Nat.ble 0 0) (st.loadN _ _ (0 * 1)) none = _
              unfold St.loadN
              rw [hg, Nat.zero_mul]
              have : ∀ (o : Nat) (cs : List V), cut o 0 cs = some [] := fun o cs => by cases o <;> rfl
              dsimp only
              rw [this]
              rfl
            · cases h
          · cases h
        · cases h
    | _ => cases hl
  · obtain ⟨i, o, c, f, own, cs, rfl, hnc, hg, hm, hcs⟩ := bytesAt_place h hne
    refine ⟨rfl, ?_⟩
    show sel (Nat.beq 1 1 && Nat.ble bs.length bs.length) (st.loadN i o (bs.length * 1)) none = _
    unfold St.loadN
    rw [hg]
    dsimp only
    rw [cut_of (by omega), Nat.mul_one, hcs, ble_t (Nat.le_refl _)]
    rfl
def sumT (bss : List (List Nat)) (i : Nat) : Nat := (bss.take i).flatten.length
noncomputable def capV : V → Option V
  | .slice _ _ _ c true => some (.int .i64 (.ofNat c))
  | _ => none
theorem step_capOf {call : CallT} {s : Env} {st : St} {x : Src} : stepE call (.capOf x) s st = okv (capV (s.ev x)) st := by
  refine step_of ?_
  show ex_capOf x s.ev st = _
  unfold ex_capOf capV
  generalize s.ev x = u
  cases u <;> try rfl
  rename_i a e n c f
  cases f <;> rfl
attribute [local simp] step_capOf
theorem sum_take {bss : List (List Nat)} {k : Nat} {b : List Nat} (h : bss[k]? = some b) : (bss.take (k + 1)).flatten = (bss.take k).flatten ++ b := by
  rw [List.take_add_one, h]
  simp
theorem sum_le {bss : List (List Nat)} (k : Nat) : (bss.take k).flatten.length ≤ bss.flatten.length := by
  conv => rhs; rw [← List.take_append_drop k bss, List.flatten_append, List.length_append]
  omega
end Go.Vabs.Sh

namespace Go.Vabs.Sm
open Go.Vabs.Pk Go.Vabs.Sb Go.Vabs.Sc Go.Vabs.Sd
set_option linter.unusedVariables false
abbrev Itm := List Nat × List Nat
def recL (tag : List Nat) (at' size : Nat) : List Nat := tag ++ ([0, 0, 0, 0] ++ (bigB at' 4 ++ bigB size 4))
def recsL : Nat → List Itm → List Nat
  | _, [] => []
  | a, x :: l => recL x.1 a x.2.length ++ recsL (a + x.2.length) l
def flatT (l : List Itm) : List Nat := (l.map (·.2)).flatten
def headL (n : Nat) : List Nat := [0, 1, 0, 0, 0, n, 0, 0, 0, 0, 0, 0]
def layL (l : List Itm) : List Nat := headL l.length ++ (recsL (12 + 16 * l.length) l ++ flatT l)
def Tagged (l : List Itm) : Prop := ∀ x ∈ l, x.1.length = 4
theorem recL_len {tag : List Nat} {a z : Nat} (h : tag.length = 4) : (recL tag a z).length = 16 := by simp [recL, bigB_len, h]
theorem recsL_len : ∀ {l : List Itm} {a : Nat}, Tagged l → (recsL a l).length = 16 * l.length
  | [], _, _ => rfl
  | x :: l, a, h => by
    show (recL x.1 a x.2.length ++ recsL (a + x.2.length) l).length = _
    rw [List.length_append, recL_len (h x (List.mem_cons_self ..)), recsL_len fun y hy => h y (List.mem_cons_of_mem _ hy), List.length_cons]
    omega
theorem recsL_snoc : ∀ {l : List Itm} {a : Nat} {x : Itm}, recsL a (l ++ [x]) = recsL a l ++ recL x.1 (a + (flatT l).length) x.2.length
  | [], a, x => by simp [recsL, flatT]
  | y :: l, a, x => by
    show recL y.1 a y.2.length ++ recsL (a + y.2.length) (l ++ [x]) = (recL y.1 a y.2.length ++ recsL (a + y.2.length) l) ++ _
    rw [recsL_snoc, List.append_assoc]
    congr 3
    simp [flatT]
    omega
theorem flatT_snoc {l : List Itm} {x : Itm} : flatT (l ++ [x]) = flatT l ++ x.2 := by simp [flatT]
theorem headL_len {n : Nat} : (headL n).length = 12 := rfl
theorem layL_len {l : List Itm} (h : Tagged l) : (layL l).length = 12 + 16 * l.length + (flatT l).length := by
  unfold layL
  rw [List.length_append, List.length_append, headL_len, recsL_len h]
  omega
theorem recsL_at : ∀ {l : List Itm} {a k : Nat} {x : Itm}, Tagged l → l[k]? = some x → ∃ r, (recsL a l).drop (16 * k) = recL x.1 (a + (flatT (l.take k)).length) x.2.length ++ r
  | [], a, k, x, _, h => by simp at h
  | y :: l, a, 0, x, _, h => by
    have h : some y = some x := h
    cases h
    exact ⟨_, rfl⟩
  | y :: l, a, k + 1, x, ht, h => by
    have hy := recL_len (a := a) (z := y.2.length) (ht y (List.mem_cons_self ..))
    obtain ⟨r, hr⟩ := recsL_at (a := a + y.2.length) (k := k) (x := x) (fun z hz => ht z (List.mem_cons_of_mem _ hz)) h
    refine ⟨r, ?_⟩
    show (recL y.1 a y.2.length ++ recsL (a + y.2.length) l).drop (16 * (k + 1)) = _
    rw [show 16 * (k + 1) = 16 + 16 * k from by omega, ← List.drop_drop, drop_l hy, hr]
    congr 2
    simp [flatT]
    omega
theorem lay_at {l : List Itm} {k : Nat} {x : Itm} (ht : Tagged l) (h : l[k]? = some x) : ∃ r, (layL l).drop (12 + 16 * k) = recL x.1 (12 + 16 * l.length + (flatT (l.take k)).length) x.2.length ++ r := by
  obtain ⟨r, hr⟩ := recsL_at (a := 12 + 16 * l.length) ht h
  have hk := (List.getElem?_eq_some_iff.1 h).1
  unfold layL
  rw [← List.drop_drop, drop_l headL_len, List.drop_append_of_le_length (by rw [recsL_len ht]; omega), hr]
  exact ⟨_, List.append_assoc ..⟩
theorem flat_le {l : List Itm} {k : Nat} {x : Itm} (h : l[k]? = some x) : (flatT (l.take k)).length + x.2.length ≤ (flatT l).length := by
  have hk := (List.getElem?_eq_some_iff.1 h).1
  have e : l = l.take k ++ x :: l.drop (k + 1) := by
    have h2 : l.drop k = x :: l.drop (k + 1) := by
      rw [List.drop_eq_getElem_cons hk]
      congr 1
      exact (List.getElem?_eq_some_iff.1 h).2
    rw [← h2, List.take_append_drop]
  have e2 : (flatT l).length = (flatT (l.take k ++ x :: l.drop (k + 1))).length := by rw [← e]
  rw [e2]
  simp [flatT]
theorem flat_cut {l : List Itm} {k : Nat} {x : Itm} (h : l[k]? = some x) : ((flatT l).drop (flatT (l.take k)).length).take x.2.length = x.2 := by
  have hk := (List.getElem?_eq_some_iff.1 h).1
  have e : l = l.take k ++ x :: l.drop (k + 1) := by
    have h2 : l.drop k = x :: l.drop (k + 1) := by
      rw [List.drop_eq_getElem_cons hk]
      congr 1
      exact (List.getElem?_eq_some_iff.1 h).2
    rw [← h2, List.take_append_drop]
  have e2 : flatT l = flatT (l.take k) ++ (x.2 ++ flatT (l.drop (k + 1))) := by
    have : flatT l = flatT (l.take k ++ x :: l.drop (k + 1)) := by rw [← e]
    rw [this]
    simp [flatT]
  rw [e2, drop_l rfl, List.take_left]
theorem lay_tag {l : List Itm} {k : Nat} {x : Itm} (ht : Tagged l) (h : l[k]? = some x) : tagB (layL l) k = x.1 := by
  obtain ⟨r, hr⟩ := lay_at ht h
  have h4 := ht x (List.mem_of_getElem? h)
  unfold tagB
  rw [hr]
  unfold recL
  rw [List.append_assoc, List.take_append_of_le_length (by omega), List.take_of_length_le (by omega)]
theorem lay_num {l : List Itm} {k d : Nat} {x : Itm} {w : List Nat} (ht : Tagged l) (h : l[k]? = some x) (hd : d + 4 ≤ 16) (hw : ((recL x.1 (12 + 16 * l.length + (flatT (l.take k)).length) x.2.length).drop d).take 4 = w) :
    num (layL l) ((12 + 16 * k + d : Nat) : Int) 4 = some (be w) := by
  obtain ⟨r, hr⟩ := lay_at ht h
  have hk := (List.getElem?_eq_some_iff.1 h).1
  have h4 := ht x (List.mem_of_getElem? h)
  rw [num_drop (by rw [layL_len ht]; omega), ← List.drop_drop, hr, List.drop_append_of_le_length (by rw [recL_len h4]; omega), List.take_append_of_le_length (by rw [List.length_drop, recL_len h4]; omega), hw]
theorem lay_off {l : List Itm} {k : Nat} {x : Itm} (ht : Tagged l) (h : l[k]? = some x) (hs : 12 + 16 * l.length + (flatT l).length < 4294967296) : offB (layL l) k = 12 + 16 * l.length + (flatT (l.take k)).length := by
  have hle := flat_le h
  have h4 := ht x (List.mem_of_getElem? h)
  unfold offB
  rw [lay_num (d := 8) (w := bigB (12 + 16 * l.length + (flatT (l.take k)).length) 4) ht h (by omega) ?_, Option.getD_some, be_big4 (by omega)]
  unfold recL
  rw [← List.append_assoc, drop_l (by simp [h4]), List.take_append_of_le_length (by rw [bigB_len]; omega), List.take_of_length_le (by rw [bigB_len]; omega)]
theorem lay_size {l : List Itm} {k : Nat} {x : Itm} (ht : Tagged l) (h : l[k]? = some x) (hs : 12 + 16 * l.length + (flatT l).length < 4294967296) : lenB (layL l) k = x.2.length := by
  have hle := flat_le h
  have h4 := ht x (List.mem_of_getElem? h)
  unfold lenB
  rw [lay_num (d := 12) (w := bigB x.2.length 4) ht h (by omega) ?_, Option.getD_some, be_big4 (by omega)]
  unfold recL
  rw [← List.append_assoc, ← List.append_assoc, drop_l (by simp [h4, bigB_len]), List.take_of_length_le (by rw [bigB_len]; omega)]
theorem lay_cnt {l : List Itm} (hn : l.length ≤ 64) : cnt (layL l) = l.length := by
  unfold cnt
  rw [show (4 : Int) = ((4 : Nat) : Int) from rfl, num_drop (by unfold layL; rw [List.length_append, headL_len]; omega)]
  have : ((layL l).drop 4).take 2 = [0, l.length] := rfl
  rw [this, Option.getD_some]
  simp [be]
theorem lay_cut {l : List Itm} {k : Nat} {x : Itm} (ht : Tagged l) (h : l[k]? = some x) : cutB (layL l) ((12 + 16 * l.length + (flatT (l.take k)).length : Nat) : Int) (x.2.length : Int) = x.2 := by
  unfold cutB layL
  rw [Int.toNat_natCast, Int.toNat_natCast, ← List.append_assoc]
  have hl : (headL l.length ++ recsL (12 + 16 * l.length) l).length = 12 + 16 * l.length := by rw [List.length_append, headL_len, recsL_len ht]
  rw [← List.drop_drop, drop_l hl, flat_cut h]
theorem nodup_at' {l : List (List Nat)} (h : l.Nodup) {j j' : Nat} {k : List Nat} (h1 : l[j]? = some k) (h2 : l[j']? = some k) : j = j' := by
  obtain ⟨a1, b1⟩ := List.getElem?_eq_some_iff.1 h1
  obtain ⟨a2, b2⟩ := List.getElem?_eq_some_iff.1 h2
  rcases Nat.lt_trichotomy j j' with hl | hl | hl
  · exact absurd (b1.trans b2.symm) (List.pairwise_iff_getElem.1 h j j' a1 a2 hl)
  · exact hl
  · exact absurd (b2.trans b1.symm) (List.pairwise_iff_getElem.1 h j' j a2 a1 hl)
theorem tabs_lay {l : List Itm} (ht : Tagged l) (hnd : (l.map (·.1)).Nodup) (hs : 12 + 16 * l.length + (flatT l).length < 4294967296) : ∀ (m k : Nat), k + m = l.length → tabs (layL l) m (l.take k) = .inr l
  | 0, k, h => by
    show Sum.inr (l.take k) = _
    rw [List.take_of_length_le (by omega)]
  | m + 1, k, h => by
    obtain ⟨x, hx⟩ : ∃ x, l[k]? = some x := ⟨_, List.getElem?_eq_getElem (by omega)⟩
    have hle := flat_le hx
    have hkl : (l.take k).length = k := by rw [List.length_take]; omega
    have hnew : ¬ x.1 ∈ (l.take k).map (·.1) := by
      intro hm
      obtain ⟨y, hy, he⟩ := List.mem_map.1 hm
      obtain ⟨j, hj, hjy⟩ := List.mem_iff_getElem.1 hy
      have hj' : j < k := by omega
      have h1 : (l.map (·.1))[j]? = some x.1 := by
        rw [List.getElem?_map, ← List.getElem?_take_of_lt hj', List.getElem?_eq_getElem hj, hjy, Option.map_some, he]
      have h2 : (l.map (·.1))[k]? = some x.1 := by rw [List.getElem?_map, hx]; rfl
      have := nodup_at' hnd h1 h2
      omega
    have e : l.take k ++ [(x.1, x.2)] = l.take (k + 1) := by rw [List.take_add_one, hx]; rfl
    show (if tagB (layL l) (l.take k).length ∈ (l.take k).map (·.1) then _ else if thereB (layL l).length (offB (layL l) (l.take k).length) (lenB (layL l) (l.take k).length) = true then tabs (layL l) m (l.take k ++ [(tagB (layL l) (l.take k).length, cutB (layL l) (offB (layL l) (l.take k).length) (lenB (layL l) (l.take k).length))]) else _) = _
    rw [hkl, lay_tag ht hx, if_neg hnew, lay_off ht hx hs, lay_size ht hx hs, if_pos (thereB_true.2 (by rw [layL_len ht]; omega)), lay_cut ht hx, e]
    exact tabs_lay ht hnd hs m (k + 1) (by omega)
theorem font_lay {l : List Itm} (ht : Tagged l) (hnd : (l.map (·.1)).Nodup) (hn : l.length ≤ 64) (hs : 12 + 16 * l.length + (flatT l).length < 4294967296) : fontS (layL l) = .inr l := by
  unfold fontS
  rw [if_neg (by rw [layL_len ht]; omega), if_neg (not_not_intro ?_), lay_cnt hn, if_neg (by omega), if_neg (by rw [layL_len ht]; omega)]
  · exact tabs_lay ht hnd hs l.length 0 (by omega)
  · show [0, 1, 0, 0] ∈ versL
    simp [versL]
theorem recsL_lt : ∀ {l : List Itm} {a : Nat}, (∀ x ∈ l, ∀ b ∈ x.1, b < 256) → ∀ b ∈ recsL a l, b < 256
  | [], _, _, b, h => by cases h
  | x :: l, a, ht, b, h => by
    rcases List.mem_append.1 (show b ∈ recL x.1 a x.2.length ++ recsL (a + x.2.length) l from h) with h | h
    · unfold recL at h
      rcases List.mem_append.1 h with h | h
      · exact ht x (List.mem_cons_self ..) b h
      · rcases List.mem_append.1 h with h | h
        · simp at h; omega
        · rcases List.mem_append.1 h with h | h <;> exact bigB_lt _ _ b h
    · exact recsL_lt (fun y hy => ht y (List.mem_cons_of_mem _ hy)) b h
theorem lay_lt {l : List Itm} (hn : l.length ≤ 64) (ht : ∀ x ∈ l, ∀ b ∈ x.1, b < 256) (hb : ∀ x ∈ l, ∀ b ∈ x.2, b < 256) : ∀ b ∈ layL l, b < 256 := by
  intro b h
  unfold layL at h
  rcases List.mem_append.1 h with h | h
  · simp [headL] at h
    rcases h with h | h | h | h <;> omega
  · rcases List.mem_append.1 h with h | h
    · exact recsL_lt ht b h
    · unfold flatT at h
      obtain ⟨t, h1, h2⟩ := List.mem_flatten.1 h
      obtain ⟨x, hx, rfl⟩ := List.mem_map.1 h1
      exact hb x hx b h2
end Go.Vabs.Sm

namespace Go.Vabs.Sn
set_option linter.unusedVariables false
set_option linter.unusedSimpArgs false
set_option maxRecDepth 10000
attribute [local simp] wp_skip wp_ret wp_exit wp_reg wp_seq wp_cond wp_block thenQ_normal thenQ_ret thenQ_exit blockQ_normal blockQ_ret blockQ_exit wpCond_true wpCond_false wpOps_nil wpVal_some wpGuard_true wpGuard_false wpOps_guard wpOps_cons
  put_at put_no ev_c ev_slot posEq_h posEq_o posEq_i posEq_ho posEq_hi posEq_oh posEq_ih posEq_oi posEq_io sel_true sel_false
  okv_some step_mv step_call step_pick pickV_bool step_bin bin_add bin_sub bin_mul bin_eql bin_neq bin_lss bin_leq bin_gtr bin_geq bin_eqb bin_neb bin_eqs bin_nes step_un un_not un_neg step_len len_slice len_str len_const step_extract extractV nth step_convInt conv_int step_convStr step_slice step_idxAddr natOf_nat step_load step_index step_field step_fieldAddr step_build step_minmax
  step_alloc step_bslice bsliceV_some newV_some step_store step_append boolIs_b boolIs_t finQ_ret finQ_normal ressE_nil ressE_cons resE_tmp consO_some initE_nil initE_cons pos_0 pos_1 pos_2 pos_3 pos_4 pos_5 pos_6 pos_7 pos_8 plain_bool plain_int plain_str plain_ptr plain_slice plain_map plain_agg plain_func plain_nilFunc V.undef oneOf_one oneOf_two ble_self
open Go.Vabs.Pk Go.Vabs.Ph Go.Vabs.Sa Go.Vabs.Sb Go.Vabs.Sc Go.Vabs.Sd Go.Vabs.Se Go.Vabs.Sg Go.Vabs.Sh Go.Vabs.Sm Go.Vabs.L2
attribute [local simp] step_nilchk nilchk_ptr cells_int cells_bool cells_str cells_slice cells_ptr cells_agg fieldAddrV natOf_zero fill repN splice over newV
  wp_dreg wpDs_nil wpDs_cons wantedE_none wantedE_some wpDGuard_true wpDGuard_lim wpDGuard_false wpDLim_true wpDVal_free wpDVal_lim back_limited next_limited limF_dir foot_load foot_convStr okAll_nil okAll_cons pastsOf nthP ahead few_next load_limited convStr_limited blt_dec okPair_dd okPair_dc okPair_cd okPair_cc anyIn_nil anyIn_same anyIn_cons meets_nil meets_nil'
theorem AObj.goodLe {n m : Nat} (hnm : n ≤ m) {o : AObj} (h : o.good n = true) : o.good m = true := by
  cases o with
  | cells own cs => exact goods_le hnm h
  | map own es c =>
    show es.all (entGood m) = true
    have h : es.all (entGood n) = true := h
    rw [List.all_eq_true] at h ⊢
    intro e he
    have := h e he
    simp only [entGood, Bool.and_eq_true] at this ⊢
    exact ⟨V.good_le hnm this.1, V.good_le hnm this.2⟩
theorem sight_keep {os os' : List (Option AObj)} (he : ∀ i, i < os.length → (os'[i]?).join = (os[i]?).join) (hl : os.length ≤ os'.length) : ∀ i o, (few os).look i = some o → (few os').look i = some o := by
  intro i o ho
  obtain ⟨h1, o', h2, h3, rfl⟩ := look_some ho
  have h1 : i < os.length := h1
  refine look_of (by rw [few_next]; omega) ?_ (AObj.goodLe (by rw [few_next, few_next]; exact hl) h3)
  rw [few_get, he i h1, ← few_get]
  exact h2
def slT (f : Bool) (q n : Nat) : V := if n = 0 then .slice none 0 0 0 true else .slice (some (q, 0)) 1 n n f
structure RowsB (os : List (Option AObj)) (r : Nat) (ts : List (List Nat)) : Prop where
  ex : ts ≠ [] → ∃ own vs, (os[r]?).join = some (.cells own vs) ∧ vs.length = ts.length ∧ ∀ (j : Nat) (v : V) (b : List Nat), vs[j]? = some v → ts[j]? = some b → v.good os.length = true ∧ lookB (few os).look v = some b
theorem RowsB.keep {os os' : List (Option AObj)} {r : Nat} {ts : List (List Nat)} (h : RowsB os r ts) (he : ∀ i, i < os.length → (os'[i]?).join = (os[i]?).join) (hl : os.length ≤ os'.length) : RowsB os' r ts :=
  ⟨fun hne => by
    obtain ⟨own, vs, h1, h2, h3⟩ := h.ex hne
    exact ⟨own, vs, by rw [he r (join_lt h1)]; exact h1, h2, fun j v b hv hb => ⟨V.good_le hl (h3 j v b hv hb).1, lookB_mono (sight_keep he hl) (h3 j v b hv hb).2⟩⟩⟩
theorem RowsB.at_ {os : List (Option AObj)} {r : Nat} {ts : List (List Nat)} (h : RowsB os r ts) {k : Nat} {b : List Nat} (hb : ts[k]? = some b) : ∃ w, loadV (few os) false 1 (.ptr (some (r, k))) = some w ∧ w.good os.length = true ∧ lookB (few os).look w = some b ∧ r < os.length := by
  have hk := (List.getElem?_eq_some_iff.1 hb).1
  obtain ⟨own, vs, h1, h2, h3⟩ := h.ex (fun e => by rw [e] at hk; simp at hk)
  refine ⟨vs[k], ?_, (h3 k _ b (List.getElem?_eq_getElem (by omega)) hb).1, (h3 k _ b (List.getElem?_eq_getElem (by omega)) hb).2, join_lt h1⟩
  rw [load_few h1, List.getElem?_eq_getElem]
theorem rows_own {os : List (Option AObj)} {q : Nat} {vs : List V} {ts : List (List Nat)} {own : Bool} (h : (os[q]?).join = some (.cells own vs)) (h2 : vs.length = ts.length) (h3 : ∀ (j : Nat) (v : V) (b : List Nat), vs[j]? = some v → ts[j]? = some b → v.good os.length = true ∧ lookB (few os).look v = some b) : RowsB os q ts := ⟨fun _ => ⟨own, vs, h, h2, h3⟩⟩
theorem lookB_own {os : List (Option AObj)} {p : Nat} {bs : List Nat} {f : Bool} (h : (os[p]?).join = some (newBytes bs)) (hb : ∀ b ∈ bs, b < 256) : (V.slice (some (p, 0)) 1 bs.length bs.length f).good os.length = true ∧ lookB (few os).look (.slice (some (p, 0)) 1 bs.length bs.length f) = some bs := by
  have hp := join_lt h
  refine ⟨by simp [V.good]; exact hp, lookB_of (own := true) (cs := bytesV bs) (by rw [few_next]; exact hp) (by rw [few_get]; exact h) (flats_good (List.all_eq_true.2 bytesV_flat)) (Nat.le_refl _) (by rw [bytesV_len]; omega) ?_ hb⟩
  rw [List.drop_zero, List.take_of_length_le (by rw [bytesV_len]; exact Nat.le_refl _)]
def layS (tags ts : List (List Nat)) : Option (List Nat) := if tags.length = ts.length ∧ tags.length ≤ 64 ∧ (∀ t ∈ tags, t.length = 4) ∧ tags.Nodup then some (layL (tags.zip ts)) else none
theorem layS_no {tags ts : List (List Nat)} (h : ¬ (tags.length = ts.length ∧ tags.length ≤ 64 ∧ (∀ t ∈ tags, t.length = 4) ∧ tags.Nodup)) : layS tags ts = none := if_neg h
theorem zip_take {α β : Type} {a : List α} {b : List β} {k : Nat} : (a.zip b).take k = (a.take k).zip (b.take k) := by simp [List.zip, List.take_zipWith]
theorem zip_map2 {a b : List (List Nat)} (h : a.length = b.length) : (a.zip b).map (·.2) = b := by rw [List.map_snd_zip (by omega)]
end Go.Vabs.Sn
