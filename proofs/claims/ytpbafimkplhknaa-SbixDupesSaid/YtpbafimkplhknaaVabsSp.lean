/-
  A font that is laid is read again: the walk of SfntBack.
-/
import Derived.Test.YtpbafimkplhknaaVabsSm
import Derived.Test.YtpbafimkplhknaaVabsZn
namespace Go.Vabs.Sp
set_option linter.unusedVariables false
set_option linter.unusedSimpArgs false
set_option maxRecDepth 10000
attribute [local simp] wp_skip wp_ret wp_exit wp_reg wp_seq wp_cond wp_block thenQ_normal thenQ_ret thenQ_exit blockQ_normal blockQ_ret blockQ_exit wpCond_true wpCond_false wpOps_nil wpVal_some wpGuard_true wpGuard_false wpOps_guard wpOps_cons
  put_at put_no ev_c ev_slot posEq_h posEq_o posEq_i posEq_ho posEq_hi posEq_oh posEq_ih posEq_oi posEq_io sel_true sel_false
  okv_some step_mv step_call step_pick pickV_bool step_bin bin_add bin_sub bin_mul bin_eql bin_neq bin_lss bin_leq bin_gtr bin_geq bin_eqb bin_neb bin_eqs bin_nes step_un un_not un_neg step_len len_slice len_str len_const step_extract extractV nth step_convInt conv_int step_convStr step_slice step_idxAddr natOf_nat step_load step_index step_field step_fieldAddr step_build step_minmax
  step_alloc step_bslice bsliceV_some newV_some step_store step_append boolIs_b boolIs_t finQ_ret finQ_normal ressE_nil ressE_cons resE_tmp consO_some initE_nil initE_cons pos_0 pos_1 pos_2 pos_3 pos_4 pos_5 pos_6 pos_7 pos_8 plain_bool plain_int plain_str plain_ptr plain_slice plain_map plain_agg plain_func plain_nilFunc V.undef oneOf_one oneOf_two ble_self
open Go.Vabs.Pk Go.Vabs.Ph Go.Vabs.Sa Go.Vabs.Sb Go.Vabs.Sc Go.Vabs.Sd Go.Vabs.Se Go.Vabs.Sg Go.Vabs.Sh Go.Vabs.Sm Go.Vabs.Sn Go.Vabs.L2
attribute [local simp] step_nilchk nilchk_ptr cells_int cells_bool cells_str cells_slice cells_ptr cells_agg fieldAddrV natOf_zero fill repN splice over newV
  wp_dreg wpDs_nil wpDs_cons wantedE_none wantedE_some wpDGuard_true wpDGuard_lim wpDGuard_false wpDLim_true wpDVal_free wpDVal_lim back_limited next_limited limF_dir foot_load foot_convStr okAll_nil okAll_cons pastsOf nthP ahead few_next load_limited convStr_limited blt_dec okPair_dd okPair_dc okPair_cd okPair_cc anyIn_nil anyIn_same anyIn_cons meets_nil meets_nil'
/- THE LAW OF TAGS -/
noncomputable def strL : List V → Option (List (List Nat))
  | [] => some []
  | .str s :: l => (strL l).map (s :: ·)
  | _ :: _ => none
theorem strL_strs : ∀ {ts : List (List Nat)}, strL (strsV ts) = some ts
  | [] => rfl
  | t :: ts => by
    show (strL (strsV ts)).map (t :: ·) = _
    rw [strL_strs]; rfl
theorem strL_some : ∀ {l : List V} {ts : List (List Nat)}, strL l = some ts → l = strsV ts
  | [], ts, h => by cases h; rfl
  | v :: l, ts, h => by
    unfold strL at h
    split at h
    · rename_i h'; cases h'
    · rename_i s l' h'
      cases h'
      obtain ⟨x, h1, rfl⟩ := Option.map_eq_some_iff.1 h
      rw [strL_some h1]; rfl
    · cases h
noncomputable def lookS (l : Sight) : V → Option (List (List Nat))
  | .slice none _ 0 0 true => some []
  | .slice (some (i, o)) 1 (n + 1) c _ => if n + 1 ≤ c then match l i with | some (.cells _ cs) => (match cut o (n + 1) cs with | some x => strL x | none => none) | _ => none else none
  | _ => none
theorem lookS_mono {l l' : Sight} (h : ∀ i o, l i = some o → l' i = some o) {v : V} {ts : List (List Nat)} (hb : lookS l v = some ts) : lookS l' v = some ts := by
  unfold lookS at hb ⊢
  split at hb
  · exact hb
  · split at hb
    · rename_i hnc
      rw [if_pos hnc]
      split at hb
      · rename_i own cs hl
        rw [h _ _ hl]
        exact hb
      · cases hb
    · cases hb
  · cases hb
noncomputable def tagsA (ts : List (List Nat)) : Ans := if ts = [] then ([], fun _ => .slice none 0 0 0 true) else ([.cells true (strsV ts)], fun k => .slice (some (k, 0)) 1 ts.length ts.length false)
noncomputable def tagsSpec : Nat → Sight → List V → Option Ans := fun _ l args =>
  match args with
  | [.ptr (some (F, 0))] => (match l F with | some (.cells _ (v :: _)) => (match lookS l v with | some ts => if ts.length ≤ 4096 then some (tagsA ts) else none | none => none) | _ => none)
  | _ => none
theorem CloneS_run {call : CallT} {lf : Nat} {os : List (Option AObj)} {v : V} {ts : List (List Nat)} (h : lookS (few os).look v = some ts) (hn : ts.length ≤ 4096) :
    ∃ w l, enterF call lf [v] (few os) CloneS_c = some (w, few (os ++ l)) ∧ ((ts = [] ∧ w = .slice none 0 0 0 true) ∨ (ts ≠ [] ∧ w = .slice (some (os.length + 1, 0)) 1 ts.length ts.length false ∧ l = [some (.cells true []), some (.cells true (strsV ts))])) := by
  unfold lookS at h
  split at h
  · rename_i e
    cases h
    refine ⟨.slice none 0 0 0 true, [], ?_, .inl ⟨rfl, rfl⟩⟩
    rw [List.append_nil]
    refine enter_eq ?_
    simp [bin_eqnil2]
  · rename_i i o n c f
    split at h
    · rename_i hnc
      split at h
      · rename_i own cs hl
        split at h
        · rename_i x hx
          have hxs := strL_some h
          obtain ⟨c1, c2⟩ := cut_take hx (by omega)
          obtain ⟨_, o', h2, _, h4⟩ := look_some hl
          obtain ⟨own', hg⟩ : ∃ own', (os[i]?).join = some (.cells own' cs) := by
            cases o' with
            | map _ _ _ => cases h4
            | cells own' cs' => cases h4; exact ⟨own', by rw [← few_get]; exact h2⟩
          have hlen : ts.length = n + 1 := by
            have : x.length = ts.length := by rw [hxs, strsV_len]
            rw [← c1, List.length_take, List.length_drop] at this
            omega
          have hA : ((os ++ [some (AObj.cells true [])])[i]?).join = some (.cells own' cs) := by rw [join_app (join_lt hg)]; exact hg
          obtain ⟨n1, hn1⟩ : ∃ n1, n1 = n + 1 := ⟨_, rfl⟩
          have hf : firstN (few (os ++ [some (AObj.cells true [])])) 1 n1 (.slice (some (i, o)) 1 n1 c f) = some (strsV ts) := by
            show sel (Nat.beq 1 1 && Nat.ble n1 n1) ((few (os ++ [some (AObj.cells true [])])).loadN i o (n1 * 1)) none = _
            rw [loadN_few hA (by omega), ble_t (Nat.le_refl _), Nat.mul_one, hn1, c1, hxs]
            rfl
          have happ := append_newE (os := os ++ [some (AObj.cells true [])]) (j := os.length) (n := n1) (e := 1) (bytes := 16) (new := strsV ts) (by simp) (by omega) (by rw [strsV_len, hlen, Nat.mul_one, hn1]) (by omega) (by omega)
          refine ⟨.slice (some (os.length + 1, 0)) 1 n1 n1 false, [some (AObj.cells true []), some (.cells true (strsV ts))], ?_, .inr ⟨fun e => by rw [e] at hlen; simp at hlen, by rw [hlen, hn1], rfl⟩⟩
          rw [show n.succ = n1 from hn1.symm]
          refine enter_eq ?_
          simp only [List.length_append, List.length_cons, List.length_nil, Nat.zero_add, List.append_assoc, List.cons_append, List.nil_append] at happ
          simp [bin_eqnil, few_alloc, lenOf, firstNo, hf, happ]
        · cases h
      · cases h
    · cases h
  · cases h
def CloneSF (call : CallT) (g : Nat) : Prop := ∀ os v ts, lookS (few os).look v = some ts → ts.length ≤ 4096 → ∃ w l, call g [v] (few os) = some (w, few (os ++ l)) ∧ ((ts = [] ∧ w = .slice none 0 0 0 true) ∨ (ts ≠ [] ∧ w = .slice (some (os.length + 1, 0)) 1 ts.length ts.length false ∧ l = [some (.cells true []), some (.cells true (strsV ts))]))
theorem CloneSF.code {base : CallT} {g lf : Nat} : CloneSF (Vabs.withF base g lf CloneS_c) g := fun os v ts h1 h2 => by rw [withF_same]; exact CloneS_run h1 h2
theorem CloneSF.withF {call : CallT} {n g lf : Nat} {fn : AFunc} (h : CloneSF call n) (hne : n ≠ g) : CloneSF (Vabs.withF call g lf fn) n := fun os v ts a b => by rw [withF_other hne]; exact h os v ts a b
theorem CloneSF.other {call : CallT} {n g : Nat} {l : List V → St → Option (V × St)} (h : CloneSF call n) (hne : n ≠ g) : CloneSF (withL call g l) n := fun os v ts a b => by rw [withL_other hne]; exact h os v ts a b
/-- A font's tags, told in memory as it is or in one that is limited. -/
structure FontTags (os : List (Option AObj)) (F : Nat) (ts : List (List Nat)) : Prop where
  ex : ∃ own v cs, (os[F]?).join = some (.cells own (v :: cs)) ∧ goods os.length (v :: cs) = true ∧ lookS (few os).look v = some ts
  le : ts.length ≤ 4096
theorem FontTags.keep {os os' : List (Option AObj)} {F : Nat} {ts : List (List Nat)} (h : FontTags os F ts) (he : ∀ i, i < os.length → (os'[i]?).join = (os[i]?).join) (hl : os.length ≤ os'.length) : FontTags os' F ts := by
  obtain ⟨own, v, cs, h1, h2, h3⟩ := h.ex
  exact ⟨⟨own, v, cs, by rw [he F (join_lt h1)]; exact h1, goods_le hl h2, lookS_mono (sight_keep he hl) h3⟩, h.le⟩
theorem FontTags.spec {os : List (Option AObj)} {F : Nat} {ts : List (List Nat)} (h : FontTags os F ts) : tagsSpec os.length (few os).look [.ptr (some (F, 0))] = some (tagsA ts) := by
  obtain ⟨own, v, cs, h1, h2, h3⟩ := h.ex
  show (match (few os).look F with | some (.cells _ (v :: _)) => (match lookS (few os).look v with | some ts => if ts.length ≤ 4096 then some (tagsA ts) else none | none => none) | _ => none) = _
  rw [look_of (o := .cells own (v :: cs)) (by rw [few_next]; exact join_lt h1) (by rw [few_get]; exact h1) (by rw [few_next]; exact h2)]
  show (match lookS (few os).look v with | some ts => if ts.length ≤ 4096 then some (tagsA ts) else none | none => none) = _
  rw [h3]
  exact if_pos h.le
def TagsSF (call : CallT) (g : Nat) : Prop := ∀ os F ts, FontTags os F ts → call g [.ptr (some (F, 0))] (few os) = some ((tagsA ts).2 os.length, few (os ++ (tagsA ts).1.map some)) ∧
  (ts ≠ [] → ∀ fr, call g [.ptr (some (F, 0))] (limF fr .call [] (few os)) = some (.slice (some (os.length, 0)) 1 ts.length ts.length false, back (limF fr .call [] (few os)) (few (os ++ [some (.cells true (strsV ts))]))))
theorem TagsSF.withF {call : CallT} {n g lf : Nat} {fn : AFunc} (h : TagsSF call n) (hne : n ≠ g) : TagsSF (Vabs.withF call g lf fn) n := fun os F ts a => by simp only [withF_other hne]; exact h os F ts a
theorem TagsSF.other {call : CallT} {n g : Nat} {l : List V → St → Option (V × St)} (h : TagsSF call n) (hne : n ≠ g) : TagsSF (withL call g l) n := fun os F ts a => by simp only [withL_other hne]; exact h os F ts a
/- WHAT IS OPENED -/
theorem row_cells {α : Type} {c : Codec α} (hw : c.w = 1) {os : List (Option AObj)} {cs : List V} {l : List α} {g : α → V} (hl : cs.length = l.length * c.w) (h : ∀ (j : Nat) (a : α), l[j]? = some a → c.shows os ((cs.drop (j * c.w)).take c.w) a) (hg : ∀ us a, c.shows os us a → us = [g a]) : cs = l.map g := by
  refine List.ext_getElem? fun j => ?_
  by_cases hj : j < l.length
  · have h1 := hg _ _ (h j l[j] (List.getElem?_eq_getElem hj))
    rw [hw, Nat.mul_one] at h1
    have h2 := congrArg (fun x : List V => x[0]?) h1
    simp only [List.getElem?_take, List.getElem?_drop] at h2
    simpa [hj] using h2
  · rw [List.getElem?_eq_none (by rw [hl, hw]; omega), List.getElem?_eq_none (by rw [List.length_map]; omega)]
theorem row_bytes {os : List (Option AObj)} {v : V} {l : List Int} (h : ShowsRow (cInt .u8) os v l) (hok : ∀ n ∈ l, (cInt .u8).ok n) : v.good os.length = true ∧ lookB (few os).look v = some (l.map Int.toNat) ∧ ∀ b ∈ l.map Int.toNat, b < 256 := by
  have hlt : ∀ b ∈ l.map Int.toNat, b < 256 := by
    intro b hb
    obtain ⟨n, hn, rfl⟩ := List.mem_map.1 hb
    have := u8_of_wf (hok n hn)
    omega
  rcases h with ⟨rfl, rfl⟩ | ⟨i, cs, rfl, h1, h2, h3⟩
  · exact ⟨rfl, rfl, hlt⟩
  · have hcs : cs = l.map fun n => V.int .u8 n := row_cells rfl h2 h3 fun us a h => h
    have hb : cs = bytesV (l.map Int.toNat) := by
      rw [hcs]
      unfold bytesV
      rw [List.map_map]
      refine List.map_congr_left fun n hn => ?_
      have := u8_of_wf (hok n hn)
      show V.int .u8 n = V.int .u8 ((n.toNat : Nat) : Int)
      congr 1
      omega
    have hi := join_lt h1
    refine ⟨by simp [V.good]; exact hi, ?_, hlt⟩
    have := lookB_of (st := few os) (i := i) (o := 0) (n := l.length) (c := l.length) (f := false) (own := false) (cs := cs) (bs := l.map Int.toNat) (by rw [few_next]; exact hi) (by rw [few_get]; exact h1) (by rw [few_next, hb]; exact goods_bytes) (Nat.le_refl _) (by rw [h2]; show 0 + l.length ≤ l.length * 1; omega) (by rw [List.drop_zero, List.take_of_length_le (by rw [h2]; show l.length * 1 ≤ _; omega), hb]) hlt
    exact this
/-- A parameter of bytes by bytes. -/
structure Par (os : List (Option AObj)) (v : V) (bss : List (List Nat)) : Prop where
  ex : ∃ a r, v = .slice a 1 bss.length bss.length false ∧ (bss ≠ [] → a = some (r, 0)) ∧ RowsB os r bss
  lt : ∀ b ∈ bss, ∀ x ∈ b, x < 256
  len : ∀ b ∈ bss, b.length ≤ 140737488354000
/- THE RUN -/
theorem growVs {os : List (Option AObj)} {q n : Nat} {vs : List V} {v : V} (hn : n = vs.length) (hs : n ≤ 64) (h : n ≠ 0 → (os[q]?).join = some (.cells true vs)) :
    appendV (few os) 1 24 (tagsV q n) (some 1) (some [v]) = some (.slice (some (os.length, 0)) 1 (n + 1) (n + 1) false, few ((if n = 0 then os else os.set q none) ++ [some (AObj.cells true (vs ++ [v]))])) := by
  unfold tagsV
  split
  · rename_i h0
    subst h0
    have : vs = [] := by cases vs with | nil => rfl | cons _ _ => simp at hn
    subst this
    rw [grow_none, if_pos (by simp)]
    rfl
  · rename_i h0
    have hg := h h0
    have ho : ownAt os q = some vs := by rw [ownAt_eq, hg]
    rw [grow_some, ho, growC_some, if_pos (by simp; omega)]
theorem tagsV_succ {q n : Nat} : tagsV q (n + 1) = .slice (some (q, 0)) 1 (n + 1) (n + 1) false := if_neg (by omega)
/-- A table of bytes that was put by. -/
def heldV (p : Nat) (b : List Nat) : V := .slice (some (p, 0)) 1 b.length b.length (decide (b = []))
theorem clone_held {os : List (Option AObj)} {b : List Nat} : ∃ p l, cloneR os b = (heldV p b, few (os ++ l)) ∧ os.length ≤ p ∧ ((os ++ l)[p]?).join = some (newBytes b) := by
  unfold cloneR
  split
  · rename_i e
    subst e
    exact ⟨os.length, _, rfl, Nat.le_refl _, by simp⟩
  · rename_i e
    refine ⟨os.length + 1, [some (newBytes []), some (newBytes b)], ?_, by omega, ?_⟩
    · unfold heldV; rw [decide_eq_false e]
    · simp
def setK (k : Nat) (os : List (Option AObj)) (q : Nat) : List (Option AObj) := if k = 0 then os else os.set q none
theorem setK_len {k : Nat} {os : List (Option AObj)} {q : Nat} : (setK k os q).length = os.length := by unfold setK; split <;> simp
theorem setK_at {k : Nat} {os : List (Option AObj)} {q i : Nat} (h : k ≠ 0 → i ≠ q) : ((setK k os q)[i]?).join = (os[i]?).join := by
  unfold setK
  split
  · rfl
  · rename_i h0; rw [join_set (fun e => h h0 e.symm)]
/-- Tags and tables, held. -/
structure Held (N : Nat) (os0 os : List (Option AObj)) (q r : Nat) (tags ts : List (List Nat)) : Prop where
  old : ∀ i, i < N → (os[i]?).join = (os0[i]?).join
  le : N ≤ os.length
  tg : tags ≠ [] → N ≤ q ∧ (os[q]?).join = some (.cells true (strsV tags))
  tb : ts ≠ [] → N ≤ r ∧ ∃ vs, (os[r]?).join = some (.cells true vs) ∧ vs.length = ts.length ∧ ∀ (j : Nat) (v : V) (b : List Nat), vs[j]? = some v → ts[j]? = some b → ∃ p, v = heldV p b ∧ N ≤ p ∧ (tags ≠ [] → p ≠ q) ∧ p ≠ r ∧ (os[p]?).join = some (newBytes b)
  ne : tags ≠ [] → ts ≠ [] → q ≠ r
theorem Held.rows {N : Nat} {os0 os : List (Option AObj)} {q r : Nat} {tags ts : List (List Nat)} (h : Held N os0 os q r tags ts) (hb : ∀ t ∈ ts, ∀ b ∈ t, b < 256) : RowsB os r ts := by
  refine ⟨fun hne => ?_⟩
  obtain ⟨_, vs, h1, h2, h3⟩ := h.tb hne
  refine ⟨true, vs, h1, h2, fun j v b hv hb' => ?_⟩
  obtain ⟨p, rfl, _, _, _, h4⟩ := h3 j v b hv hb'
  exact lookB_own h4 (hb b (List.mem_of_getElem? hb'))
/-- One round: X2 holds new things beside the elder ones; the tags grow, a table is put by, the tables grow. -/
theorem Held.next {N k : Nat} {os0 os : List (Option AObj)} {q r : Nat} {tags ts : List (List Nat)} (h : Held N os0 os q r tags ts) (hk : tags.length = k) (hk2 : ts.length = k) {l1 l2 l3 : List (Option AObj)} {tag b : List Nat} {vs : List V} {p : Nat}
    (hvs : ts ≠ [] → (os[r]?).join = some (.cells true vs)) (hvl : vs.length = k) {X2 X3 X4 X5 X6 : List (Option AObj)} (e2 : X2 = os ++ l1) (e3 : X3 = setK k X2 q ++ [some (.cells true (strsV (tags ++ [tag])))]) (e4 : X4 = X3 ++ l2) (hp : X3.length ≤ p) (hpb : (X4[p]?).join = some (newBytes b)) (e5 : X5 = X4 ++ l3) (e6 : X6 = setK k X5 r ++ [some (.cells true (vs ++ [heldV p b]))]) :
    Held N os0 X6 X2.length X5.length (tags ++ [tag]) (ts ++ [b]) := by
  have n2 : X2.length = os.length + l1.length := by rw [e2, List.length_append]
  have n3 : X3.length = X2.length + 1 := by rw [e3]; simp [setK_len]
  have n4 : X4.length = X3.length + l2.length := by rw [e4, List.length_append]
  have n5 : X5.length = X4.length + l3.length := by rw [e5, List.length_append]
  have n6 : X6.length = X5.length + 1 := by rw [e6]; simp [setK_len]
  have hle := h.le
  have hpX := join_lt hpb
  have tne : k ≠ 0 → tags ≠ [] := fun h0 e => h0 (by rw [← hk, e]; rfl)
  have sne : k ≠ 0 → ts ≠ [] := fun h0 e => h0 (by rw [← hk2, e]; rfl)
  have hrl : k ≠ 0 → r < os.length := fun h0 => join_lt (hvs (sne h0))
  have hql : k ≠ 0 → q < os.length := fun h0 => join_lt (h.tg (tne h0)).2
  have keep3 : ∀ i, i < os.length → (k ≠ 0 → i ≠ q) → (X3[i]?).join = (os[i]?).join := fun i hi hq => by
    rw [e3, join_app (by rw [setK_len]; omega), setK_at hq, e2, join_app hi]
  have keep6 : ∀ i, i < X5.length → (k ≠ 0 → i ≠ r) → (X6[i]?).join = (X5[i]?).join := fun i hi hr => by
    rw [e6, join_app (by rw [setK_len]; omega), setK_at hr]
  have k53 : ∀ i, i < X3.length → (X5[i]?).join = (X3[i]?).join := fun i hi => by rw [e5, join_app (by omega), e4, join_app hi]
  have keep : ∀ i, i < os.length → (k ≠ 0 → i ≠ q) → (k ≠ 0 → i ≠ r) → (X6[i]?).join = (os[i]?).join := fun i hi hq hr => by
    rw [keep6 i (by omega) hr, k53 i (by omega), keep3 i hi hq]
  have p6 : (X6[p]?).join = some (newBytes b) := by
    rw [keep6 p (by omega) (fun h0 => by have := hrl h0; omega), e5, join_app hpX, hpb]
  refine ⟨fun i hi => ?_, by omega, fun _ => ⟨by omega, ?_⟩, fun _ => ⟨by omega, vs ++ [heldV p b], ?_, by simp [hvl, hk2], fun j v c hv hc => ?_⟩, fun _ _ => by omega⟩
  · rw [keep i (by omega) (fun h0 => by have := (h.tg (tne h0)).1; omega) (fun h0 => by have := (h.tb (sne h0)).1; omega), h.old i hi]
  · rw [keep6 _ (by omega) (fun h0 => by have := hrl h0; omega), k53 _ (by omega), e3, List.getElem?_append_right (by rw [setK_len]; exact Nat.le_refl _), setK_len, Nat.sub_self]
    rfl
  · rw [e6, List.getElem?_append_right (by rw [setK_len]; exact Nat.le_refl _), setK_len, Nat.sub_self]
    rfl
  · by_cases hj : j < k
    · rw [List.getElem?_append_left (by omega)] at hv hc
      have h0 : k ≠ 0 := by omega
      obtain ⟨_, vs', g1, g2, g3⟩ := h.tb (sne h0)
      have : vs' = vs := by
        rw [hvs (sne h0)] at g1
        injection g1 with g1
        injection g1 with _ g1
        exact g1.symm
      subst this
      obtain ⟨p', g4, g5, g6, g7, g8⟩ := g3 j v c hv hc
      have hpl := join_lt g8
      exact ⟨p', g4, g5, fun _ => by omega, by omega, by rw [keep p' hpl (fun _ => g6 (tne h0)) (fun _ => g7)]; exact g8⟩
    · have hjk : j = k := by
        have := (List.getElem?_eq_some_iff.1 hc).1
        simp at this
        omega
      subst hjk
      rw [List.getElem?_append_right (by omega), hvl, Nat.sub_self] at hv
      rw [List.getElem?_append_right (by omega), hk2, Nat.sub_self] at hc
      cases hv
      cases hc
      exact ⟨p, rfl, by omega, fun _ => by omega, by omega, p6⟩
/- A FONT IN MEMORY -/
structure FontMem (os : List (Option AObj)) (F : Nat) (L : List Itm) : Prop where
  f0 : (os[F]?).join = some (.cells true [tagsV (F + 2 + L.length) L.length, .map (some (F + 1))])
  f1 : (os[F + 1]?).join = some (.map true (entsF 0 (kvsOf L (idsOf' (F + 2) L.length))) L.length)
  ft : ∀ j x, L[j]? = some x → (os[F + 2 + j]?).join = some (newBytes x.2)
  fq : L ≠ [] → (os[F + 2 + L.length]?).join = some (.cells true (strsV (L.map (·.1))))
theorem FontMem.keep {os os' : List (Option AObj)} {F : Nat} {L : List Itm} (h : FontMem os F L) (he : ∀ i, i < os.length → (os'[i]?).join = (os[i]?).join) : FontMem os' F L :=
  ⟨by rw [he _ (join_lt h.f0)]; exact h.f0, by rw [he _ (join_lt h.f1)]; exact h.f1, fun j x hx => by rw [he _ (join_lt (h.ft j x hx))]; exact h.ft j x hx, fun hne => by rw [he _ (join_lt (h.fq hne))]; exact h.fq hne⟩
theorem font_mem {os : List (Option AObj)} {L : List Itm} : FontMem (os ++ (fontObjs os.length L).map some) os.length L := by
  have atF : ∀ j o, (fontObjs os.length L)[j]? = some o → ((os ++ (fontObjs os.length L).map some)[os.length + j]?).join = some o := by
    intro j o hj
    rw [List.getElem?_append_right (by omega), Nat.add_sub_cancel_left, List.getElem?_map, hj]
    rfl
  refine ⟨atF 0 _ rfl, atF 1 _ rfl, fun j x hx => ?_, fun hne => ?_⟩
  · have hj := (List.getElem?_eq_some_iff.1 hx).1
    have := atF (2 + j) (newBytes x.2) (by
      unfold fontObjs
      rw [List.getElem?_append_right (by simp), List.getElem?_append_left (by simp; omega)]
      simp [hx])
    rw [show os.length + 2 + j = os.length + (2 + j) from by omega]
    exact this
  · have := atF (2 + L.length) (.cells true (strsV (L.map (·.1)))) (by
      unfold fontObjs
      rw [if_neg hne, List.getElem?_append_right (by simp), List.getElem?_append_right (by simp)]
      simp)
    rw [show os.length + 2 + L.length = os.length + (2 + L.length) from by omega]
    exact this
theorem open_mem {call : CallT} {nO : Nat} (hO : OpenF call nO) {os : List (Option AObj)} {v : V} {bs : List Nat} {L : List Itm} (hg : v.good os.length = true) (hl : lookB (few os).look v = some bs) (hb : bs.length ≤ 140737488354000) (hf : fontS bs = .inr L) :
    ∃ l, call nO [v] (few os) = some (.tuple [.ptr (some (os.length, 0)), .int .i64 0], few (os ++ l)) ∧ FontMem (os ++ l) os.length L := by
  have h := hO os v bs hg hl hb
  rw [show openA os.length bs = (fontObjs os.length L, fun k => .tuple [.ptr (some (k, 0)), .int .i64 0]) from by unfold openA; rw [hf]] at h
  exact ⟨_, h, font_mem⟩
theorem FontMem.tags {os : List (Option AObj)} {F : Nat} {L : List Itm} (h : FontMem os F L) (hl : L.length ≤ 4096) : FontTags os F (L.map (·.1)) := by
  refine ⟨⟨true, _, _, h.f0, ?_, ?_⟩, by rw [List.length_map]; exact hl⟩
  · have h1 := join_lt h.f1
    unfold tagsV
    split
    · simp [goods, V.good]; exact h1
    · rename_i h0
      have h2 := join_lt (h.fq (fun e => h0 (by rw [e]; rfl)))
      simp [goods, V.good]
      exact ⟨h2, h1⟩
  · unfold tagsV
    split
    · rename_i h0
      have : L = [] := List.length_eq_zero_iff.1 h0
      rw [this]
      rfl
    · rename_i h0
      have h2 := h.fq (fun e => h0 (by rw [e]; rfl))
      obtain ⟨n, hn⟩ : ∃ n, L.length = n + 1 := ⟨L.length - 1, by omega⟩
      rw [hn] at h2 ⊢
      show (if n + 1 ≤ n + 1 then match (few os).look _ with | some (.cells _ cs) => (match cut 0 (n + 1) cs with | some x => strL x | none => none) | _ => none else none) = _
      rw [if_pos (Nat.le_refl _), look_of (o := .cells true (strsV (L.map (·.1)))) (by rw [few_next]; exact join_lt h2) (by rw [few_get]; exact h2) (flats_good (List.all_eq_true.2 strsV_flat))]
      show (match cut 0 (n + 1) (strsV (L.map (·.1))) with | some x => strL x | none => none) = _
      have hsl : (strsV (L.map (·.1))).length = n + 1 := by rw [strsV_len, List.length_map, hn]
      rw [cut_of (by omega), List.drop_zero, List.take_of_length_le (by omega)]
      exact strL_strs
theorem FontMem.table {call : CallT} {g : Nat} (hT : TableF call g) {os : List (Option AObj)} {F : Nat} {L : List Itm} (h : FontMem os F L) (hnd : (L.map (·.1)).Nodup) {k : Nat} {x : Itm} (hx : L[k]? = some x) (hs : x.2.length ≤ 140737488354816) :
    call g [.ptr (some (F, 0)), .str x.1] (few os) = some (.tuple [(cloneR os x.2).1, .bool true], (cloneR os x.2).2) := by
  have hk := (List.getElem?_eq_some_iff.1 hx).1
  refine hT os F (F + 1) L.length (F + 2 + k) k true true _ _ x.1 x.2 h.f0 h.f1 ?_ ?_ (h.ft k x hx) hs
  · unfold kvsOf idsOf'
    rw [List.getElem?_zipWith, hx]
    simp [hk]
  · intro m hm kv hkv e
    have h1 : ((kvsOf L (idsOf' (F + 2) L.length)).map (·.1))[m]? = some kv.1 := by rw [List.getElem?_map, hkv]; rfl
    rw [kvs_keys (by simp [idsOf']), e] at h1
    have h2 : (L.map (·.1))[k]? = some x.1 := by rw [List.getElem?_map, hx]; rfl
    have := nodup_at' hnd h1 h2
    omega
def TableNF (call : CallT) (g : Nat) : Prop := ∀ (os : List (Option AObj)) (F M c : Nat) (o1 o2 : Bool) (tv : V) (kvs : List (List Nat × V)) (t : List Nat), (os[F]?).join = some (.cells o1 [tv, .map (some M)]) → (os[M]?).join = some (.map o2 (entsF 0 kvs) c) → (∀ kv ∈ kvs, kv.1 ≠ t) →
  call g [.ptr (some (F, 0)), .str t] (few os) = some (.tuple [.slice none 0 0 0 true, .bool false], few os)
theorem TableNF.code {base : CallT} {g lf nC : Nat} (hC : CloneN base nC) : TableNF (Vabs.withF base g lf (Table_c nC)) g := fun os F M c o1 o2 tv kvs t h1 h2 h3 => by rw [withF_same]; exact Table_no hC h1 h2 h3
theorem TableNF.withF {call : CallT} {n g lf : Nat} {fn : AFunc} (h : TableNF call n) (hne : n ≠ g) : TableNF (Vabs.withF call g lf fn) n := fun os F M c o1 o2 tv kvs t h1 h2 h3 => by rw [withF_other hne]; exact h os F M c o1 o2 tv kvs t h1 h2 h3
theorem TableNF.other {call : CallT} {n g : Nat} {l : List V → St → Option (V × St)} (h : TableNF call n) (hne : n ≠ g) : TableNF (withL call g l) n := fun os F M c o1 o2 tv kvs t h1 h2 h3 => by rw [withL_other hne]; exact h os F M c o1 o2 tv kvs t h1 h2 h3
theorem FontMem.no {call : CallT} {g : Nat} (hT : TableNF call g) {os : List (Option AObj)} {F : Nat} {L : List Itm} (h : FontMem os F L) {t : List Nat} (ht : ¬ t ∈ L.map (·.1)) :
    call g [.ptr (some (F, 0)), .str t] (few os) = some (.tuple [.slice none 0 0 0 true, .bool false], few os) :=
  hT os F (F + 1) L.length true true _ _ t h.f0 h.f1 fun kv hkv e => ht (by
    have : kv.1 ∈ (kvsOf L (idsOf' (F + 2) L.length)).map (·.1) := List.mem_map.2 ⟨kv, hkv, rfl⟩
    rw [kvs_keys (by simp [idsOf']), e] at this
    exact this)
/- THE RUN OF SFNTBACK -/
theorem flatten_le {l : List (List Nat)} {m : Nat} (h : ∀ t ∈ l, t.length ≤ m) : l.flatten.length ≤ m * l.length := by
  induction l with
  | nil => simp
  | cons t l ih =>
    have h1 := h t (List.mem_cons_self ..)
    have h2 := ih fun x hx => h x (List.mem_cons_of_mem _ hx)
    rw [List.flatten_cons, List.length_append, List.length_cons, Nat.mul_succ]
    omega
end Go.Vabs.Sp

namespace Go.Vabs.Sr
set_option linter.unusedVariables false
set_option linter.unusedSimpArgs false
set_option maxRecDepth 10000
def RLay_c (n_Big : Nat) : AFunc := AFunc.mk 96 (.seq (.reg [AOper.mk (some (.i (.o .h))) (.mv (.c (.slice none 0 0 0 true))) none, AOper.mk (some (.o (.i .h))) (.mv (.c (.bool false))) none]) (.seq (.reg [AOper.mk (some (.o (.i (.i .h)))) (.len .slice (.t .h)) none, AOper.mk (some (.i (.i .h))) (.mv (.t (.o (.i (.i .h))))) none]) (.seq (.seq (.reg [AOper.mk (some (.i (.o (.o (.o .h))))) (.len .slice (.t (.o .h))) none, AOper.mk (some (.o (.i (.o (.o .h))))) (.bin .neq (.val .int) (.t (.i (.i .h))) (.t (.i (.o (.o (.o .h)))))) none, AOper.mk (some (.i (.i (.o (.o .h))))) (.mv (.t (.o (.i (.o (.o .h)))))) none, AOper.mk (some (.i (.o (.i (.o .h))))) (.bin .gtr (.val .int) (.t (.i (.i .h))) (.c (.int .i64 (.ofNat 64)))) (some (.i (.i (.o (.o .h))), false)), AOper.mk (some (.o (.i (.i (.o .h))))) (.pick (.t (.i (.i (.o (.o .h))))) (.c (.bool true)) (.t (.i (.o (.i (.o .h)))))) none]) (.cond (.t (.o (.i (.i (.o .h))))) (.seq (.reg [AOper.mk (some (.i (.o .h))) (.mv (.c (.slice none 0 0 0 true))) none, AOper.mk (some (.o (.i .h))) (.mv (.c (.bool false))) none]) .ret) .skip)) (.seq (.reg [AOper.mk (some (.i (.i (.i (.o .h))))) (.bslice 1 4 [.int .u8 (.ofNat 0)] [(0, (1, .c (.int .u8 (.ofNat 0)))), (1, (1, .c (.int .u8 (.ofNat 1)))), (2, (1, .c (.int .u8 (.ofNat 0)))), (3, (1, .c (.int .u8 (.ofNat 0))))]) none, AOper.mk (some (.i (.o (.o (.i .h))))) (.call n_Big [.t (.i (.i .h)), .c (.int .i64 (.ofNat 2))]) none, AOper.mk (some (.o (.i (.o (.i .h))))) (.append 1 1 (.t (.i (.i (.i (.o .h))))) (.t (.i (.o (.o (.i .h)))))) none, AOper.mk (some (.o (.o (.o .h)))) (.mv (.t (.o (.i (.o (.i .h)))))) none]) (.seq (.reg [AOper.mk (some (.o (.o (.i (.i .h))))) (.appendZ 1 1 [.int .u8 (.ofNat 0)] (.t (.o (.o (.o .h)))) (.c (.int .i64 (.ofNat 6)))) none, AOper.mk (some (.o (.o (.o .h)))) (.mv (.t (.o (.o (.i (.i .h)))))) none]) (.seq (.reg [AOper.mk (some (.o (.i (.i (.i .h))))) (.bin .mul (.val .int) (.c (.int .i64 (.ofNat 16))) (.t (.i (.i .h)))) none, AOper.mk (some (.i (.i (.i (.i .h))))) (.bin .add (.val .int) (.c (.int .i64 (.ofNat 12))) (.t (.o (.i (.i (.i .h)))))) none, AOper.mk (some (.i (.o (.o .h)))) (.mv (.t (.i (.i (.i (.i .h)))))) none]) (.seq (.seq (.reg [AOper.mk (some (.o (.i (.o .h)))) (.mv (.c (.int .i64 (.ofNat 0)))) none]) (.block 0 (.loop (.seq (.seq (.reg [AOper.mk (some (.o (.i (.o (.o (.o .h)))))) (.bin .lss (.val .int) (.t (.o (.i (.o .h)))) (.t (.i (.i .h)))) none]) (.cond (.t (.o (.i (.o (.o (.o .h)))))) .skip (.exit 0))) (.seq (.block 1 (.seq (.seq (.reg [AOper.mk (some (.i (.i (.o .h)))) (.mv (.c (.int .i64 (.ofNat 0)))) none]) (.block 2 (.loop (.seq (.seq (.reg [AOper.mk (some (.i (.i (.i (.o (.o .h)))))) (.bin .lss (.val .int) (.t (.i (.i (.o .h)))) (.t (.o (.i (.o .h))))) none]) (.cond (.t (.i (.i (.i (.o (.o .h)))))) .skip (.exit 2))) (.seq (.block 3 (.seq (.dreg [(AOper.mk (some (.o (.i (.o (.i (.o .h)))))) (.mv (.t .h)) none, []), (AOper.mk (some (.i (.i (.o (.i (.o .h)))))) (.mv (.t (.i (.i (.o .h))))) none, []), (AOper.mk (some (.o (.o (.i (.i (.o .h)))))) (.idxAddr (.slice 1) (.t (.o (.i (.o (.i (.o .h)))))) (.t (.i (.i (.o (.i (.o .h))))))) none, []), (AOper.mk (some (.i (.o (.i (.i (.o .h)))))) (.load false 1 (.t (.o (.o (.i (.i (.o .h))))))) none, [7]), (AOper.mk (some (.o (.i (.i (.i (.o .h)))))) (.mv (.t .h)) none, []), (AOper.mk (some (.i (.i (.i (.i (.o .h)))))) (.mv (.t (.o (.i (.o .h))))) none, []), (AOper.mk (some (.o (.o (.o (.o (.i .h)))))) (.idxAddr (.slice 1) (.t (.o (.i (.i (.i (.o .h)))))) (.t (.i (.i (.i (.i (.o .h))))))) none, []), (AOper.mk (some (.i (.o (.o (.o (.i .h)))))) (.load false 1 (.t (.o (.o (.o (.o (.i .h))))))) none, [3]), (AOper.mk (some (.o (.i (.o (.o (.i .h)))))) (.bin .eql (.val .str) (.t (.i (.o (.i (.i (.o .h)))))) (.t (.i (.o (.o (.o (.i .h))))))) none, [])]) (.cond (.t (.o (.i (.o (.o (.i .h)))))) (.seq (.reg [AOper.mk (some (.i (.o .h))) (.mv (.c (.slice none 0 0 0 true))) none, AOper.mk (some (.o (.i .h))) (.mv (.c (.bool false))) none]) .ret) .skip))) (.reg [AOper.mk (some (.i (.o (.o (.i (.o .h)))))) (.bin .add (.val .int) (.t (.i (.i (.o .h)))) (.c (.int .i64 (.ofNat 1)))) none, AOper.mk (some (.i (.i (.o .h)))) (.mv (.t (.i (.o (.o (.i (.o .h))))))) none])))))) (.seq (.seq (.reg [AOper.mk (some (.i (.o (.i (.o (.i .h)))))) (.idxAddr (.slice 1) (.t .h) (.t (.o (.i (.o .h))))) none, AOper.mk (some (.o (.i (.i (.o (.i .h)))))) (.load false 1 (.t (.i (.o (.i (.o (.i .h))))))) none, AOper.mk (some (.i (.i (.i (.o (.i .h)))))) (.len .str (.t (.o (.i (.i (.o (.i .h))))))) none, AOper.mk (some (.o (.o (.o (.i (.i .h)))))) (.bin .neq (.val .int) (.t (.i (.i (.i (.o (.i .h)))))) (.c (.int .i64 (.ofNat 4)))) none]) (.cond (.t (.o (.o (.o (.i (.i .h)))))) (.seq (.reg [AOper.mk (some (.i (.o .h))) (.mv (.c (.slice none 0 0 0 true))) none, AOper.mk (some (.o (.i .h))) (.mv (.c (.bool false))) none]) .ret) .skip)) (.seq (.reg [AOper.mk (some (.o (.o (.i (.i (.i .h)))))) (.idxAddr (.slice 1) (.t .h) (.t (.o (.i (.o .h))))) none, AOper.mk (some (.i (.o (.i (.i (.i .h)))))) (.load false 1 (.t (.o (.o (.i (.i (.i .h))))))) none, AOper.mk (some (.o (.i (.i (.i (.i .h)))))) (.append 1 1 (.t (.o (.o (.o .h)))) (.t (.i (.o (.i (.i (.i .h))))))) none, AOper.mk (some (.o (.o (.o .h)))) (.mv (.t (.o (.i (.i (.i (.i .h))))))) none]) (.seq (.reg [AOper.mk (some (.o (.o (.o (.o (.o (.o .h))))))) (.bslice 1 4 [.int .u8 (.ofNat 0)] [(0, (1, .c (.int .u8 (.ofNat 0)))), (1, (1, .c (.int .u8 (.ofNat 0)))), (2, (1, .c (.int .u8 (.ofNat 0)))), (3, (1, .c (.int .u8 (.ofNat 0))))]) none, AOper.mk (some (.i (.o (.o (.o (.o (.o .h))))))) (.append 1 1 (.t (.o (.o (.o .h)))) (.t (.o (.o (.o (.o (.o (.o .h)))))))) none, AOper.mk (some (.o (.o (.o .h)))) (.mv (.t (.i (.o (.o (.o (.o (.o .h)))))))) none]) (.seq (.reg [AOper.mk (some (.o (.o (.i (.o (.o (.o .h))))))) (.call n_Big [.t (.i (.o (.o .h))), .c (.int .i64 (.ofNat 4))]) none, AOper.mk (some (.i (.o (.i (.o (.o (.o .h))))))) (.append 1 1 (.t (.o (.o (.o .h)))) (.t (.o (.o (.i (.o (.o (.o .h)))))))) none, AOper.mk (some (.o (.o (.o .h)))) (.mv (.t (.i (.o (.i (.o (.o (.o .h)))))))) none]) (.seq (.reg [AOper.mk (some (.i (.o (.o (.i (.o (.o .h))))))) (.idxAddr (.slice 1) (.t (.o .h)) (.t (.o (.i (.o .h))))) none, AOper.mk (some (.o (.i (.o (.i (.o (.o .h))))))) (.load false 1 (.t (.i (.o (.o (.i (.o (.o .h)))))))) none, AOper.mk (some (.i (.i (.o (.i (.o (.o .h))))))) (.len .slice (.t (.o (.i (.o (.i (.o (.o .h)))))))) none, AOper.mk (some (.o (.o (.i (.i (.o (.o .h))))))) (.call n_Big [.t (.i (.i (.o (.i (.o (.o .h)))))), .c (.int .i64 (.ofNat 4))]) none, AOper.mk (some (.i (.o (.i (.i (.o (.o .h))))))) (.append 1 1 (.t (.o (.o (.o .h)))) (.t (.o (.o (.i (.i (.o (.o .h)))))))) none, AOper.mk (some (.o (.o (.o .h)))) (.mv (.t (.i (.o (.i (.i (.o (.o .h)))))))) none]) (.reg [AOper.mk (some (.i (.o (.o (.o (.i (.o .h))))))) (.idxAddr (.slice 1) (.t (.o .h)) (.t (.o (.i (.o .h))))) none, AOper.mk (some (.o (.i (.o (.o (.i (.o .h))))))) (.load false 1 (.t (.i (.o (.o (.o (.i (.o .h)))))))) none, AOper.mk (some (.i (.i (.o (.o (.i (.o .h))))))) (.len .slice (.t (.o (.i (.o (.o (.i (.o .h)))))))) none, AOper.mk (some (.o (.o (.i (.o (.i (.o .h))))))) (.bin .add (.val .int) (.t (.i (.o (.o .h)))) (.t (.i (.i (.o (.o (.i (.o .h)))))))) none, AOper.mk (some (.i (.o (.o .h)))) (.mv (.t (.o (.o (.i (.o (.i (.o .h)))))))) none])))))))) (.reg [AOper.mk (some (.o (.o (.i (.o (.o .h)))))) (.bin .add (.val .int) (.t (.o (.i (.o .h)))) (.c (.int .i64 (.ofNat 1)))) none, AOper.mk (some (.o (.i (.o .h)))) (.mv (.t (.o (.o (.i (.o (.o .h))))))) none])))))) (.seq (.seq (.reg [AOper.mk (some (.o (.o (.i .h)))) (.mv (.c (.int .i64 (.ofNat 0)))) none]) (.block 4 (.loop (.seq (.seq (.reg [AOper.mk (some (.i (.i (.i (.o (.i (.o .h))))))) (.bin .lss (.val .int) (.t (.o (.o (.i .h)))) (.t (.i (.i .h)))) none]) (.cond (.t (.i (.i (.i (.o (.i (.o .h))))))) .skip (.exit 4))) (.seq (.block 5 (.reg [AOper.mk (some (.i (.o (.i (.i (.i (.o .h))))))) (.idxAddr (.slice 1) (.t (.o .h)) (.t (.o (.o (.i .h))))) none, AOper.mk (some (.o (.i (.i (.i (.i (.o .h))))))) (.load false 1 (.t (.i (.o (.i (.i (.i (.o .h)))))))) none, AOper.mk (some (.i (.i (.i (.i (.i (.o .h))))))) (.append 1 1 (.t (.o (.o (.o .h)))) (.t (.o (.i (.i (.i (.i (.o .h)))))))) none, AOper.mk (some (.o (.o (.o .h)))) (.mv (.t (.i (.i (.i (.i (.i (.o .h)))))))) none])) (.reg [AOper.mk (some (.i (.o (.o (.i (.i (.o .h))))))) (.bin .add (.val .int) (.t (.o (.o (.i .h)))) (.c (.int .i64 (.ofNat 1)))) none, AOper.mk (some (.o (.o (.i .h)))) (.mv (.t (.i (.o (.o (.i (.i (.o .h)))))))) none])))))) (.seq (.reg [AOper.mk (some (.i (.o .h))) (.mv (.t (.o (.o (.o .h))))) none, AOper.mk (some (.o (.i .h))) (.mv (.c (.bool true))) none]) .ret))))))))) [.tmp (.i (.o .h)), .tmp (.o (.i .h))]
def tables_c (n_Pick : Nat) (n_Few : Nat) : AFunc := AFunc.mk 47 (.seq (.reg [AOper.mk (some (.i (.o .h))) (.mv (.c (.slice none 0 0 0 true))) none, AOper.mk (some (.o (.i .h))) (.mv (.c (.slice none 0 0 0 true))) none]) (.seq (.reg [AOper.mk (some (.i (.i (.o .h)))) (.build [.str [], .str [], .str [], .str [], .str [], .str [], .str [], .str []] [(0, (1, .c (.str [67, 79, 76, 82]))), (1, (1, .c (.str [67, 80, 65, 76]))), (2, (1, .c (.str [103, 108, 121, 102]))), (3, (1, .c (.str [108, 111, 99, 97]))), (4, (1, .c (.str [104, 101, 97, 100]))), (5, (1, .c (.str [109, 97, 120, 112]))), (6, (1, .c (.str [32, 32, 32, 32]))), (7, (1, .c (.str [122, 122])))]) none, AOper.mk (some (.i (.i .h))) (.alloc [.str [], .str [], .str [], .str [], .str [], .str [], .str [], .str []]) none, AOper.mk none (.store 8 (.t (.i (.i .h))) (.t (.i (.i (.o .h))))) none]) (.seq (.reg [AOper.mk (some (.o (.o (.o .h)))) (.mv (.c (.slice none 0 0 0 true))) none]) (.seq (.reg [AOper.mk (some (.i (.o (.o .h)))) (.mv (.c (.slice none 0 0 0 true))) none]) (.seq (.seq (.reg [AOper.mk (some (.o (.i (.o .h)))) (.mv (.c (.int .i64 (.ofNat 0)))) none]) (.block 0 (.loop (.seq (.seq (.reg [AOper.mk (some (.o (.i (.i .h)))) (.len .slice (.t .h)) none, AOper.mk (some (.i (.i (.i .h)))) (.bin .lss (.val .int) (.t (.o (.i (.o .h)))) (.t (.o (.i (.i .h))))) none, AOper.mk (some (.o (.o (.o (.o .h))))) (.mv (.t (.i (.i (.i .h))))) none, AOper.mk (some (.i (.i (.o (.o .h))))) (.len .slice (.t (.o .h))) (some (.o (.o (.o (.o .h))), true)), AOper.mk (some (.o (.o (.i (.o .h))))) (.bin .lss (.val .int) (.t (.o (.i (.o .h)))) (.t (.i (.i (.o (.o .h)))))) (some (.o (.o (.o (.o .h))), true)), AOper.mk (some (.i (.o (.i (.o .h))))) (.pick (.t (.o (.o (.o (.o .h))))) (.t (.o (.o (.i (.o .h))))) (.c (.bool false))) none, AOper.mk (some (.o (.i (.i (.o .h))))) (.mv (.t (.i (.o (.i (.o .h)))))) none, AOper.mk (some (.o (.o (.o (.i .h))))) (.bin .lss (.val .int) (.t (.o (.i (.o .h)))) (.c (.int .i64 (.ofNat 9)))) (some (.o (.i (.i (.o .h))), true)), AOper.mk (some (.i (.o (.o (.i .h))))) (.pick (.t (.o (.i (.i (.o .h))))) (.t (.o (.o (.o (.i .h))))) (.c (.bool false))) none]) (.cond (.t (.i (.o (.o (.i .h))))) .skip (.exit 0))) (.seq (.block 1 (.seq (.reg [AOper.mk (some (.i (.i (.i (.i .h))))) (.idxAddr (.slice 1) (.t (.o .h)) (.t (.o (.i (.o .h))))) none, AOper.mk (some (.o (.o (.o (.o (.o .h)))))) (.load false 1 (.t (.i (.i (.i (.i .h)))))) none, AOper.mk (some (.i (.o (.o (.o (.o .h)))))) (.call n_Pick [.t (.o (.o (.o (.o (.o .h))))), .c (.int .i64 (.ofNat 8))]) none, AOper.mk (some (.o (.i (.o (.o (.o .h)))))) (.idxAddr (.arr 8 false 1) (.t (.i (.i .h))) (.t (.i (.o (.o (.o (.o .h))))))) none, AOper.mk (some (.i (.i (.o (.o (.o .h)))))) (.load false 1 (.t (.o (.i (.o (.o (.o .h))))))) none, AOper.mk (some (.o (.o (.i (.o (.o .h)))))) (.bslice 1 1 [.str []] [(0, (1, .t (.i (.i (.o (.o (.o .h)))))))]) none, AOper.mk (some (.i (.o (.i (.o (.o .h)))))) (.append 1 16 (.t (.o (.o (.o .h)))) (.t (.o (.o (.i (.o (.o .h))))))) none, AOper.mk (some (.o (.o (.o .h)))) (.mv (.t (.i (.o (.i (.o (.o .h))))))) none]) (.reg [AOper.mk (some (.i (.o (.o (.i (.o .h)))))) (.idxAddr (.slice 1) (.t .h) (.t (.o (.i (.o .h))))) none, AOper.mk (some (.o (.i (.o (.i (.o .h)))))) (.load false 1 (.t (.i (.o (.o (.i (.o .h))))))) none, AOper.mk (some (.i (.i (.o (.i (.o .h)))))) (.call n_Few [.t (.o (.i (.o (.i (.o .h))))), .c (.int .i64 (.ofNat 60))]) none, AOper.mk (some (.o (.o (.i (.i (.o .h)))))) (.bslice 1 1 [.slice none 0 0 0 true] [(0, (1, .t (.i (.i (.o (.i (.o .h)))))))]) none, AOper.mk (some (.i (.o (.i (.i (.o .h)))))) (.append 1 24 (.t (.i (.o (.o .h)))) (.t (.o (.o (.i (.i (.o .h))))))) none, AOper.mk (some (.i (.o (.o .h)))) (.mv (.t (.i (.o (.i (.i (.o .h))))))) none]))) (.reg [AOper.mk (some (.i (.i (.o (.i .h))))) (.bin .add (.val .int) (.t (.o (.i (.o .h)))) (.c (.int .i64 (.ofNat 1)))) none, AOper.mk (some (.o (.i (.o .h)))) (.mv (.t (.i (.i (.o (.i .h)))))) none])))))) (.seq (.reg [AOper.mk (some (.i (.o .h))) (.mv (.t (.o (.o (.o .h))))) none, AOper.mk (some (.o (.i .h))) (.mv (.t (.i (.o (.o .h))))) none]) .ret)))))) [.tmp (.i (.o .h)), .tmp (.o (.i .h))]
attribute [local simp] wp_skip wp_ret wp_exit wp_reg wp_seq wp_cond wp_block thenQ_normal thenQ_ret thenQ_exit blockQ_normal blockQ_ret blockQ_exit wpCond_true wpCond_false wpOps_nil wpVal_some wpGuard_true wpGuard_false wpOps_guard wpOps_cons
  put_at put_no ev_c ev_slot posEq_h posEq_o posEq_i posEq_ho posEq_hi posEq_oh posEq_ih posEq_oi posEq_io sel_true sel_false
  okv_some step_mv step_call step_pick pickV_bool step_bin bin_add bin_sub bin_mul bin_eql bin_neq bin_lss bin_leq bin_gtr bin_geq bin_eqb bin_neb bin_eqs bin_nes step_un un_not un_neg step_len len_slice len_str len_const step_extract extractV nth step_convInt conv_int step_convStr step_slice step_idxAddr natOf_nat step_load step_index step_field step_fieldAddr step_build step_minmax
  step_alloc step_bslice bsliceV_some newV_some step_store step_append boolIs_b boolIs_t finQ_ret finQ_normal ressE_nil ressE_cons resE_tmp consO_some initE_nil initE_cons pos_0 pos_1 pos_2 pos_3 pos_4 pos_5 pos_6 pos_7 pos_8 plain_bool plain_int plain_str plain_ptr plain_slice plain_map plain_agg plain_func plain_nilFunc V.undef oneOf_one oneOf_two ble_self
open Go.Vabs.Pk Go.Vabs.Ph Go.Vabs.Sa Go.Vabs.Sb Go.Vabs.Sc Go.Vabs.Sd Go.Vabs.Se Go.Vabs.Sg Go.Vabs.Sh Go.Vabs.Sm Go.Vabs.Sn Go.Vabs.Sp Go.Vabs.L2
attribute [local simp] step_nilchk nilchk_ptr cells_int cells_bool cells_str cells_slice cells_ptr cells_agg fieldAddrV natOf_zero fill repN splice over newV step_appendZ
  wp_dreg wpDs_nil wpDs_cons wantedE_none wantedE_some wpDGuard_true wpDGuard_lim wpDGuard_false wpDLim_true wpDVal_free wpDVal_lim back_limited next_limited limF_dir foot_load foot_convStr okAll_nil okAll_cons pastsOf nthP ahead few_next load_limited convStr_limited blt_dec okPair_dd okPair_dc okPair_cd okPair_cc anyIn_nil anyIn_same anyIn_cons meets_nil meets_nil'
/-- A file that grows beside elder memory. -/
structure GF (N : Nat) (os0 os : List (Option AObj)) (p : Nat) (bs : List Nat) : Prop where
  old : ∀ i, i < N → (os[i]?).join = (os0[i]?).join
  at_ : (os[p]?).join = some (newBytes bs)
  lo : N ≤ p ∧ N ≤ os.length
theorem GF.add {N : Nat} {os0 os : List (Option AObj)} {p : Nat} {bs : List Nat} (h : GF N os0 os p bs) (o : Option AObj) : GF N os0 (os ++ [o]) p bs :=
  ⟨fun i hi => by rw [join_app (by have := h.lo; omega), h.old i hi], by rw [join_app (join_lt h.at_)]; exact h.at_, by have := h.lo; simp; omega⟩
theorem GF.grow {N : Nat} {os0 os : List (Option AObj)} {p : Nat} {bs : List Nat} (h : GF N os0 os p bs) (nb : List Nat) (hs : bs.length + nb.length < 140737488354000) :
    ∃ p' os', appendV (few os) 1 1 (.slice (some (p, 0)) 1 bs.length bs.length false) (some nb.length) (some (bytesV nb)) = some (.slice (some (p', 0)) 1 (bs.length + nb.length) (bs.length + nb.length) false, few os') ∧ GF N os0 os' p' (bs ++ nb) := by
  obtain ⟨p', os', g, G⟩ := growB (nb := nb) h.at_ hs
  have hlo := h.lo
  have hn := G.new
  have hl := G.len
  exact ⟨p', os', g, ⟨fun i hi => by rw [G.old i (by omega) (by omega), h.old i hi], G.at', by omega⟩⟩
def RLayPost (os : List (Option AObj)) (tags ts : List (List Nat)) (u : V) (os' : List (Option AObj)) : Prop :=
  (∀ i, i < os.length → (os'[i]?).join = (os[i]?).join) ∧ os.length ≤ os'.length ∧
  match layS tags ts with
  | some l => ∃ p, u = .tuple [.slice (some (p, 0)) 1 l.length l.length false, .bool true] ∧ os.length ≤ p ∧ (os'[p]?).join = some (newBytes l)
  | none => u = .tuple [.slice none 0 0 0 true, .bool false]
theorem slT_len {st : St} {f : Bool} {q n : Nat} : lenV st .slice (slT f q n) = some (.int .i64 (n : Int)) := by unfold slT; split <;> (first | (rename_i h0; rw [h0]; rfl) | rfl)
set_option maxHeartbeats 2000000 in
theorem RLay_run {call : CallT} {lf nB : Nat} (hlf : 65 ≤ lf) (hBig : BigF call nB) {os : List (Option AObj)} {q r : Nat} {f1 f2 : Bool} {tags ts : List (List Nat)}
    (hq : tags ≠ [] → ∃ own, (os[q]?).join = some (.cells own (strsV tags))) (hr : RowsB os r ts) (hb1 : ∀ t ∈ tags, ∀ b ∈ t, b < 256) (hb2 : ∀ t ∈ ts, ∀ b ∈ t, b < 256) (hs1 : tags.length ≤ 1048576) (hs2 : ts.length ≤ 1048576) (hs : ts.flatten.length ≤ 140737488352800) :
    ∃ u os', enterF call lf [slT f1 q tags.length, slT f2 r ts.length] (few os) (RLay_c nB) = some (u, few os') ∧ RLayPost os tags ts u os' := by
  have main := enter_wp (call := call) (lf := lf) (n := 96) (args := [slT f1 q tags.length, slT f2 r ts.length]) (st := few os) (K := fun u st => ∃ os', st = few os' ∧ RLayPost os tags ts u os') (c := (RLay_c nB).code) (rs := (RLay_c nB).results) ?_
  · obtain ⟨u, st', h1, os', rfl, h2⟩ := main
    exact ⟨u, os', h1, h2⟩
  · unfold RLay_c
    dsimp only
    obtain ⟨n, hn⟩ : ∃ n, n = tags.length := ⟨_, rfl⟩
    obtain ⟨m, hm⟩ : ∃ m, m = ts.length := ⟨_, rfl⟩
    rw [← hn, ← hm]
    have len1 : ∀ st, lenV st .slice (slT f1 q n) = some (.int .i64 (n : Int)) := fun st => slT_len
    have len2 : ∀ st, lenV st .slice (slT f2 r m) = some (.int .i64 (m : Int)) := fun st => slT_len
    by_cases hnm : n = m
    · by_cases h64 : n ≤ 64
      · subst hnm
        obtain ⟨L, hL⟩ : ∃ L, L = tags.zip ts := ⟨_, rfl⟩
        have hLn : L.length = n := by rw [hL, List.length_zip]; omega
        have hflat : (flatT L).length = ts.flatten.length := by unfold flatT; rw [hL, zip_map2 (by omega)]
        obtain ⟨N, hN⟩ : ∃ N, N = os.length := ⟨_, rfl⟩
        obtain ⟨A1, hA1⟩ : ∃ A1, A1 = os ++ [some (newBytes [0, 1, 0, 0])] := ⟨_, rfl⟩
        have al1 : (few os).alloc (.cells true [.int .u8 0, .int .u8 1, .int .u8 0, .int .u8 0]) = some (N, few A1) := by rw [hA1, hN]; exact few_alloc os _
        have hA1l : A1.length = N + 1 := by rw [hA1]; simp [hN]
        obtain ⟨A2, hA2⟩ : ∃ A2, A2 = A1 ++ [some (newBytes (bigB n 2))] := ⟨_, rfl⟩
        have hA2l : A2.length = N + 2 := by rw [hA2]; simp [hA1l]
        have big1 : call nB [.int .i64 (n : Int), .int .i64 2] (few A1) = some (.slice (some (N + 1, 0)) 1 2 2 false, few A2) := by rw [hA2, ← hA1l]; exact hBig A1 n 2 (by omega) (by omega)
        have at2 : (A2[N]?).join = some (newBytes [0, 1, 0, 0]) := by rw [hA2, hA1]; exact keep_app (by rw [hN]; simp)
        have at3 : (A2[N + 1]?).join = some (newBytes (bigB n 2)) := by rw [hA2, ← hA1l]; simp
        have fi1 : firstN (few A2) 1 2 (.slice (some (N + 1, 0)) 1 2 2 false) = some (bytesV (bigB n 2)) := first_own (bs := bigB n 2) at3
        obtain ⟨A3, hA3⟩ : ∃ A3, A3 = A2 ++ [some (newBytes ([0, 1, 0, 0] ++ bigB n 2))] := ⟨_, rfl⟩
        have hA3l : A3.length = N + 3 := by rw [hA3]; simp [hA2l]
        have gr1 : appendV (few A2) 1 1 (.slice (some (N, 0)) 1 4 4 true) (some 2) (some (bytesV (bigB n 2))) = some (.slice (some (N + 2, 0)) 1 6 6 false, few A3) := by
          have := grow_fix (n := 4) (c := 4) (m := 1) (new := bytesV (bigB n 2)) at2 rfl (by rw [bytesV_len, bigB_len]) (by omega)
          rw [hA2l] at this
          rw [hA3]
          exact this.trans (by simp [newBytes, bytesV])
        have gf3 : GF N os A3 (N + 2) ([0, 1, 0, 0] ++ bigB n 2) := by
          refine ⟨fun i hi => ?_, ?_, by omega⟩
          · rw [hA3, join_app (by omega), hA2, join_app (by omega), hA1, join_app (by omega)]
          · rw [hA3, ← hA2l]; simp
        obtain ⟨p0, A4, gr2, gf4⟩ := gf3.grow [0, 0, 0, 0, 0, 0] (by simp [bigB_len])
        have gr2 : appendV (few A3) 1 1 (.slice (some (N + 2, 0)) 1 6 6 false) (some 6) (some [.int .u8 0, .int .u8 0, .int .u8 0, .int .u8 0, .int .u8 0, .int .u8 0]) = some (.slice (some (p0, 0)) 1 12 12 false, few A4) := gr2
        have hhead : [0, 1, 0, 0] ++ bigB n 2 ++ [0, 0, 0, 0, 0, 0] = headL n := by
          have : bigB n 2 = [n / 256 % 256, n % 256] := by simp [bigB]
          rw [this, show n / 256 % 256 = 0 from by omega, show n % 256 = n from by omega]
          rfl
        rw [hhead] at gf4
        have hnat6 : natOf (V.int .i64 6) = some 6 := rfl
        simp (disch := omega) [len1, len2, dlt_t, dlt_f, dle_t, dle_f, dltn_t, dltn_f, dlen_t, dlen_f, deq_t, deq_f, deqn_t, deqn_f, hnat6, repN, al1, big1, lenOf, firstNo, fi1, gr1, gr2, wrap_i]
        refine wp_loop (fun k s st => ∃ i X p, i + k = n ∧ st = few X ∧ (GF N os X p (headL n ++ recsL (12 + 16 * n) (L.take i)) ∧ (∀ t ∈ tags.take i, t.length = 4) ∧ (tags.take i).Nodup) ∧
          s .h = slT f1 q n ∧ s (.o .h) = slT f2 r n ∧ s (.i (.i .h)) = .int .i64 (n : Int) ∧ s (.o (.i (.o .h))) = .int .i64 (i : Int) ∧ s (.o (.o (.o .h))) = .slice (some (p, 0)) 1 (12 + 16 * i) (12 + 16 * i) false ∧ s (.i (.o (.o .h))) = .int .i64 ((12 + 16 * n + (flatT (L.take i)).length : Nat) : Int)) n ?_ (by omega) ?_
        · refine ⟨0, A4, p0, by omega, rfl, ⟨by simpa [recsL] using gf4, ?_, ?_⟩, ?_, ?_, ?_, ?_, ?_, ?_⟩
          · intro t ht; simp at ht
          · simp
          all_goals simp [flatT]
        · rintro k s st ⟨i, X0, p, hk, rfl, ⟨hfile, hlen4, hnd⟩, s1, s2, s3, s4, s5, s6⟩
          obtain ⟨B, hB⟩ : ∃ B, B = headL n ++ recsL (12 + 16 * n) (L.take i) := ⟨_, rfl⟩
          rw [← hB] at hfile
          have hX0l := hfile.lo.2
          have hX0k := hfile.old
          have hzt : L.take i = (tags.take i).zip (ts.take i) := by rw [hL, zip_take]
          have htag : Tagged (L.take i) := fun x hx => hlen4 x.1 (by rw [hzt] at hx; exact (List.of_mem_zip hx).1)
          have hBl : B.length = 12 + 16 * i := by rw [hB, List.length_append, headL_len, recsL_len htag, List.length_take]; omega
          cases k with
          | zero =>
            have hin : i = n := by omega
            subst hin
            rw [List.take_of_length_le (by omega)] at hnd hB htag
            have hlen4 : ∀ t ∈ tags, t.length = 4 := fun t ht => hlen4 t (by rw [List.take_of_length_le (by omega)]; exact ht)
            have hlay : layS tags ts = some (layL L) := by
              unfold layS
              rw [if_pos ⟨by omega, by omega, hlen4, hnd⟩, ← hL]
            have hlB : layL L = B ++ ts.flatten := by
              have : ts.flatten = flatT L := by unfold flatT; rw [hL, zip_map2 (by omega)]
              rw [this, hB, List.append_assoc]
              unfold layL
              rw [hLn]
            simp (disch := omega) [s1, s2, s3, s4, s5, s6, dlt_t, dlt_f, dle_t, dle_f, dltn_t, dltn_f, dlen_t, dlen_f, deq_t, deq_f, deqn_t, deqn_f]
            refine wp_loop (fun k s st => ∃ j X p F, j + k = i ∧ st = few X ∧ (GF N os X p (B ++ (ts.take j).flatten) ∧ F = sumT ts j) ∧
              s (.o .h) = slT f2 r i ∧ s (.i (.i .h)) = .int .i64 (i : Int) ∧ s (.o (.o (.o .h))) = .slice (some (p, 0)) 1 (12 + 16 * i + F) (12 + 16 * i + F) false ∧ s (.o (.o (.i .h))) = .int .i64 (j : Int)) i ?_ (by omega) ?_
            · refine ⟨0, X0, p, 0, by omega, rfl, ⟨by simpa using hfile, by simp [sumT]⟩, ?_, ?_, ?_, ?_⟩ <;> simp [s1, s2, s3, s4, s5, s6]
            · rintro k s st ⟨j, X, p, F, hk, rfl, ⟨hgf, hF⟩, z1, z2, z3, z4⟩
              have hF' := hF
              unfold sumT at hF
              have hFl : F ≤ ts.flatten.length := by rw [hF]; exact sum_le j
              cases k with
              | zero =>
                have hji : j = i := by omega
                subst hji
                rw [List.take_of_length_le (by omega), ← hlB] at hgf
                rw [List.take_of_length_le (by omega)] at hF
                simp (disch := omega) [z1, z2, z3, z4, dlt_t, dlt_f, dle_t, dle_f, dltn_t, dltn_f, dlen_t, dlen_f, deq_t, deq_f, deqn_t, deqn_f]
                refine ⟨X, rfl, fun i hi => hgf.old i (by omega), by have := hgf.lo; omega, ?_⟩
                rw [hlay]
                refine ⟨p, ?_, by have := hgf.lo; omega, hgf.at_⟩
                rw [hlB, List.length_append, hBl, ← hF]
              | succ k =>
                have hji : j < i := by omega
                obtain ⟨b, hb⟩ : ∃ b, ts[j]? = some b := ⟨_, List.getElem?_eq_getElem (by omega)⟩
                have hT2 : slT f2 r i = .slice (some (r, 0)) 1 i i f2 := if_neg (by omega)
                obtain ⟨w, ldw, _, hwl, _⟩ := (hr.keep (fun i hi => hgf.old i (by omega)) (by have := hgf.lo; omega)).at_ hb
                obtain ⟨w1, w2⟩ := first_bytes (lookB_at hwl)
                have hsum := sum_take hb
                have hsl := sum_le (bss := ts) (j + 1)
                rw [hsum, List.length_append] at hsl
                obtain ⟨p', Y, g, gf⟩ := hgf.grow b (by rw [List.length_append]; omega)
                have hbl : (B ++ (ts.take j).flatten).length = 12 + 16 * i + F := by rw [List.length_append, hBl, hF]
                rw [hbl] at g
                rw [List.append_assoc, ← hsum] at gf
                obtain ⟨z, hz⟩ : ∃ z, z = b.length := ⟨_, rfl⟩
                rw [← hz] at g w1 w2
                simp (disch := omega) [z1, z2, z3, z4, hT2, dlt_t, dlt_f, dle_t, dle_f, dltn_t, dltn_f, dlen_t, dlen_f, deq_t, deq_f, deqn_t, deqn_f, natOf_int, idxAddr_slice, ldw, w1, firstNo, w2, g, wrap_i]
                refine ⟨k, by omega, j + 1, by omega, Y, rfl, p', F + z, ⟨gf, by unfold sumT; rw [hsum, List.length_append, hF, hz]⟩, ⟨rfl, by omega⟩, by omega⟩
          | succ k =>
            have hin : i < n := by omega
            obtain ⟨t, ht⟩ : ∃ t, tags[i]? = some t := ⟨_, List.getElem?_eq_getElem (by omega)⟩
            obtain ⟨b, hb⟩ : ∃ b, ts[i]? = some b := ⟨_, List.getElem?_eq_getElem (by omega)⟩
            have hLi : L[i]? = some (t, b) := by rw [hL, List.getElem?_zip_eq_some]; exact ⟨ht, hb⟩
            have hT1 : slT f1 q n = .slice (some (q, 0)) 1 n n f1 := if_neg (by omega)
            have hT2 : slT f2 r n = .slice (some (r, 0)) 1 n n f2 := if_neg (by omega)
            obtain ⟨own, hq1⟩ := hq (fun e => by rw [e] at ht; simp at ht)
            have hqX : (X0[q]?).join = some (.cells own (strsV tags)) := by rw [hX0k q (by rw [hN]; exact join_lt hq1)]; exact hq1
            have ldt : loadV (few X0) false 1 (.ptr (some (q, i))) = some (.str t) := by rw [load_few hqX, strsV_at, ht]; rfl
            simp (disch := omega) [s1, s2, s3, s4, s5, s6, dlt_t, dlt_f, dle_t, dle_f, dltn_t, dltn_f, dlen_t, dlen_f, deq_t, deq_f, deqn_t, deqn_f]
            refine wp_loop (fun k2 s st => ∃ j, j + k2 = i ∧ st = few X0 ∧ (∀ x ∈ tags.take j, x ≠ t) ∧
              s .h = slT f1 q n ∧ s (.o .h) = slT f2 r n ∧ s (.i (.i .h)) = .int .i64 (n : Int) ∧ s (.o (.i (.o .h))) = .int .i64 (i : Int) ∧ s (.o (.o (.o .h))) = .slice (some (p, 0)) 1 (12 + 16 * i) (12 + 16 * i) false ∧ s (.i (.o (.o .h))) = .int .i64 ((12 + 16 * n + (flatT (L.take i)).length : Nat) : Int) ∧ s (.i (.i (.o .h))) = .int .i64 (j : Int)) i ?_ (by omega) ?_
            · refine ⟨0, by omega, rfl, ?_, ?_, ?_, ?_, ?_, ?_, ?_, ?_⟩
              · intro x hx; simp at hx
              all_goals simp [s1, s2, s3, s4, s5, s6]
            · rintro k2 s st ⟨j, hk2, rfl, hne, s1, s2, s3, s4, s5, s6, s7⟩
              cases k2 with
              | succ k2 =>
                have hji : j < i := by omega
                obtain ⟨x, hx⟩ : ∃ x, tags[j]? = some x := ⟨_, List.getElem?_eq_getElem (by omega)⟩
                have ldx : loadV (few X0) false 1 (.ptr (some (q, j))) = some (.str x) := by rw [load_few hqX, strsV_at, hx]; rfl
                by_cases hxt : x = t
                · subst hxt
                  simp (disch := omega) [s1, s2, s3, s4, s5, s6, s7, hT1, dlt_t, dlt_f, dle_t, dle_f, dltn_t, dltn_f, dlen_t, dlen_f, deq_t, deq_f, deqn_t, deqn_f, natOf_int, idxAddr_slice, ldt, ldx, load_d, idOf, ble_dec, nbeq_dec, meets_cons, mem_cons, mem_nil, back_limF, next_limF]
                  refine ⟨X0, rfl, fun i hi => hX0k i (by omega), by omega, ?_⟩
                  rw [layS_no (fun h => by
                    have := nodup_at' h.2.2.2 hx ht
                    omega)]
                · simp (disch := omega) [s1, s2, s3, s4, s5, s6, s7, hT1, dlt_t, dlt_f, dle_t, dle_f, dltn_t, dltn_f, dlen_t, dlen_f, deq_t, deq_f, deqn_t, deqn_f, natOf_int, idxAddr_slice, ldt, ldx, hxt, load_d, idOf, ble_dec, nbeq_dec, meets_cons, mem_cons, mem_nil, back_limF, next_limF, wrap_i]
                  refine ⟨k2, by omega, j + 1, by omega, fun y hy => ?_, by omega⟩
                  rw [List.take_add_one, hx] at hy
                  rcases List.mem_append.1 hy with hy | hy
                  · exact hne y hy
                  · simp at hy; rw [hy]; exact hxt
              | zero =>
                have hji : j = i := by omega
                subst hji
                have hmem : ¬ t ∈ tags.take j := fun h => hne t h rfl
                obtain ⟨tl, htl⟩ : ∃ tl, tl = t.length := ⟨_, rfl⟩
                by_cases h4 : tl = 4
                · have ht4 : t.length = 4 := by omega
                  have hfl : (flatT (L.take j)).length + b.length ≤ (flatT L).length := flat_le hLi
                  obtain ⟨a, ha⟩ : ∃ a, a = 12 + 16 * n + (flatT (L.take j)).length := ⟨_, rfl⟩
                  rw [← ha] at s6
                  obtain ⟨z, hz⟩ : ∃ z, z = b.length := ⟨_, rfl⟩
                  -- the tag
                  have fi1 : ∀ st, firstN st 1 4 (.str t) = some (bytesV t) := by
                    intro st
                    match t, ht4 with
                    | [_, _, _, _], _ => rfl
                  have lo1 : lenOf (.str t) = some 4 := by show some t.length = _; rw [ht4]
                  obtain ⟨p1, Y1, g1, gf1⟩ := hfile.grow t (by omega)
                  rw [hBl, ht4] at g1
                  have l1 : (B ++ t).length = 12 + 16 * j + 4 := by rw [List.length_append, hBl, ht4]
                  -- a sum of zeros
                  obtain ⟨y1, hy1⟩ : ∃ y1, Y1.length = y1 := ⟨_, rfl⟩
                  obtain ⟨Y2, hY2⟩ : ∃ Y2, Y2 = Y1 ++ [some (newBytes [0, 0, 0, 0])] := ⟨_, rfl⟩
                  have al2 : (few Y1).alloc (.cells true [.int .u8 0, .int .u8 0, .int .u8 0, .int .u8 0]) = some (y1, few Y2) := by rw [hY2, ← hy1]; exact few_alloc Y1 _
                  have fi2 : firstN (few Y2) 1 4 (.slice (some (y1, 0)) 1 4 4 true) = some (bytesV [0, 0, 0, 0]) := first_own (bs := [0, 0, 0, 0]) (by rw [hY2, ← hy1]; simp)
                  have gf2 := gf1.add (some (newBytes [0, 0, 0, 0]))
                  rw [← hY2] at gf2
                  obtain ⟨p3, Y3, g3, gf3⟩ := gf2.grow [0, 0, 0, 0] (by simp only [List.length_cons, List.length_nil]; omega)
                  rw [l1] at g3
                  have g3 : appendV (few Y2) 1 1 (.slice (some (p1, 0)) 1 (12 + 16 * j + 4) (12 + 16 * j + 4) false) (some 4) (some (bytesV [0, 0, 0, 0])) = some (.slice (some (p3, 0)) 1 (12 + 16 * j + 4 + 4) (12 + 16 * j + 4 + 4) false, few Y3) := g3
                  have l3 : (B ++ t ++ [0, 0, 0, 0]).length = 12 + 16 * j + 4 + 4 := by rw [List.length_append, l1]; rfl
                  -- where it stands
                  obtain ⟨y3, hy3⟩ : ∃ y3, Y3.length = y3 := ⟨_, rfl⟩
                  obtain ⟨Y4, hY4⟩ : ∃ Y4, Y4 = Y3 ++ [some (newBytes (bigB a 4))] := ⟨_, rfl⟩
                  have big4 : call nB [.int .i64 (a : Int), .int .i64 4] (few Y3) = some (.slice (some (y3, 0)) 1 4 4 false, few Y4) := by rw [hY4, ← hy3]; exact hBig Y3 a 4 (by omega) (by omega)
                  have fi4 : firstN (few Y4) 1 4 (.slice (some (y3, 0)) 1 4 4 false) = some (bytesV (bigB a 4)) := first_own (bs := bigB a 4) (by rw [hY4, ← hy3]; simp)
                  have gf4 := gf3.add (some (newBytes (bigB a 4)))
                  rw [← hY4] at gf4
                  obtain ⟨p5, Y5, g5, gf5⟩ := gf4.grow (bigB a 4) (by rw [bigB_len]; omega)
                  rw [l3, bigB_len] at g5
                  have l5 : (B ++ t ++ [0, 0, 0, 0] ++ bigB a 4).length = 12 + 16 * j + 4 + 4 + 4 := by rw [List.length_append, l3, bigB_len]
                  -- how long it is
                  obtain ⟨w, ldw, _, hwl, _⟩ := (hr.keep (fun i hi => gf5.old i (by omega)) (by have := gf5.lo; omega)).at_ hb
                  have hzl : ∀ st', lenV st' .slice w = some (.int .i64 (z : Int)) := fun st' => by rw [hz]; exact len_bytes (st' := st') (lookB_at hwl)
                  obtain ⟨y5, hy5⟩ : ∃ y5, Y5.length = y5 := ⟨_, rfl⟩
                  obtain ⟨Y6, hY6⟩ : ∃ Y6, Y6 = Y5 ++ [some (newBytes (bigB z 4))] := ⟨_, rfl⟩
                  have big6 : call nB [.int .i64 (z : Int), .int .i64 4] (few Y5) = some (.slice (some (y5, 0)) 1 4 4 false, few Y6) := by rw [hY6, ← hy5]; exact hBig Y5 z 4 (by omega) (by omega)
                  have fi6 : firstN (few Y6) 1 4 (.slice (some (y5, 0)) 1 4 4 false) = some (bytesV (bigB z 4)) := first_own (bs := bigB z 4) (by rw [hY6, ← hy5]; simp)
                  have gf6 := gf5.add (some (newBytes (bigB z 4)))
                  rw [← hY6] at gf6
                  obtain ⟨p7, Y7, g7, gf7⟩ := gf6.grow (bigB z 4) (by rw [bigB_len]; omega)
                  rw [l5, bigB_len] at g7
                  have hR7 := hr.keep (fun i hi => gf7.old i (by omega)) (by have := gf7.lo; omega)
                  obtain ⟨w7, ldw7, _, hwl7, _⟩ := hR7.at_ hb
                  have hzl7 : ∀ st', lenV st' .slice w7 = some (.int .i64 (z : Int)) := fun st' => by rw [hz]; exact len_bytes (st' := st') (lookB_at hwl7)
                  have hLs : L.take (j + 1) = L.take j ++ [(t, b)] := by rw [List.take_add_one, hLi]; rfl
                  have hCe : B ++ t ++ [0, 0, 0, 0] ++ bigB a 4 ++ bigB z 4 = headL n ++ recsL (12 + 16 * n) (L.take (j + 1)) := by
                    rw [hB, hLs, recsL_snoc, ← ha]
                    simp [recL, hz]
                  rw [hCe] at gf7
                  simp (disch := omega) [s1, s2, s3, s4, s5, s6, s7, hT1, hT2, dlt_t, dlt_f, dle_t, dle_f, dltn_t, dltn_f, dlen_t, dlen_f, deq_t, deq_f, deqn_t, deqn_f, natOf_int, idxAddr_slice, ldt, ht4, firstNo, fi1, g1, al2, lenOf, fi2, g3, big4, fi4, g5, ldw, hzl, big6, fi6, g7, ldw7, hzl7, wrap_i]
                  refine ⟨k, by omega, j + 1, by omega, Y7, rfl, p7, ⟨gf7, fun t' ht' => ?_, ?_⟩, by omega, ⟨rfl, by omega⟩, ?_⟩
                  · rw [List.take_add_one, ht] at ht'
                    rcases List.mem_append.1 ht' with h | h
                    · exact hlen4 t' h
                    · simp at h; rw [h]; exact ht4
                  · rw [List.take_add_one, ht]
                    refine List.nodup_append.2 ⟨hnd, by simp, fun x hx y hy => ?_⟩
                    simp at hy
                    rw [hy]
                    exact fun e => hmem (e ▸ hx)
                  · rw [hLs, flatT_snoc, List.length_append]
                    show (a : Int) + (z : Int) = 12 + 16 * (n : Int) + (((flatT (L.take j)).length + b.length : Nat) : Int)
                    omega
                · simp (disch := omega) [s1, s2, s3, s4, s5, s6, s7, hT1, dlt_t, dlt_f, dle_t, dle_f, dltn_t, dltn_f, dlen_t, dlen_f, deq_t, deq_f, deqn_t, deqn_f, natOf_int, idxAddr_slice, ldt, ← htl]
                  refine ⟨X0, rfl, fun i hi => hX0k i (by omega), by omega, ?_⟩
                  rw [layS_no (fun h => h4 (by rw [htl]; exact h.2.2.1 t (List.mem_of_getElem? ht)))]
      · simp (disch := omega) [len1, len2, dlt_t, dlt_f, dle_t, dle_f, dltn_t, dltn_f, dlen_t, dlen_f, deq_t, deq_f, deqn_t, deqn_f, wrap_i]
        refine ⟨os, rfl, fun i hi => rfl, Nat.le_refl _, ?_⟩
        rw [layS_no (fun h => by omega)]
    · simp (disch := omega) [len1, len2, dlt_t, dlt_f, dle_t, dle_f, dltn_t, dltn_f, dlen_t, dlen_f, deq_t, deq_f, deqn_t, deqn_f]
      refine ⟨os, rfl, fun i hi => rfl, Nat.le_refl _, ?_⟩
      rw [layS_no (fun h => by omega)]
def RLayF (call : CallT) (g : Nat) : Prop := ∀ os q r f1 f2 tags ts, (tags ≠ [] → ∃ own, (os[q]?).join = some (.cells own (strsV tags))) → RowsB os r ts → (∀ t ∈ tags, ∀ b ∈ t, b < 256) → (∀ t ∈ ts, ∀ b ∈ t, b < 256) → tags.length ≤ 1048576 → ts.length ≤ 4096 → ts.flatten.length ≤ 140737488352800 →
  ∃ u os', call g [slT f1 q tags.length, slT f2 r ts.length] (few os) = some (u, few os') ∧ RLayPost os tags ts u os'
theorem RLayF.code {base : CallT} {g lf nB : Nat} (hlf : 65 ≤ lf) (hB : BigF base nB) : RLayF (Vabs.withF base g lf (RLay_c nB)) g := fun os q r f1 f2 tags ts h1 h2 h3 h4 h5 h6 h7 => by
  rw [withF_same]; exact RLay_run hlf hB h1 h2 h3 h4 h5 (by omega) h7
theorem RLayF.withF {call : CallT} {n g lf : Nat} {fn : AFunc} (h : RLayF call n) (hne : n ≠ g) : RLayF (Vabs.withF call g lf fn) n := fun os q r f1 f2 tags ts h1 h2 h3 h4 h5 h6 h7 => by rw [withF_other hne]; exact h os q r f1 f2 tags ts h1 h2 h3 h4 h5 h6 h7
theorem RLayF.other {call : CallT} {n g : Nat} {l : List V → St → Option (V × St)} (h : RLayF call n) (hne : n ≠ g) : RLayF (withL call g l) n := fun os q r f1 f2 tags ts h1 h2 h3 h4 h5 h6 h7 => by rw [withL_other hne]; exact h os q r f1 f2 tags ts h1 h2 h3 h4 h5 h6 h7

end Go.Vabs.Sr

namespace Go.Vabs.St
set_option linter.unusedVariables false
set_option linter.unusedSimpArgs false
set_option maxRecDepth 10000
attribute [local simp] wp_skip wp_ret wp_exit wp_reg wp_seq wp_cond wp_block thenQ_normal thenQ_ret thenQ_exit blockQ_normal blockQ_ret blockQ_exit wpCond_true wpCond_false wpOps_nil wpVal_some wpGuard_true wpGuard_false wpOps_guard wpOps_cons
  put_at put_no ev_c ev_slot posEq_h posEq_o posEq_i posEq_ho posEq_hi posEq_oh posEq_ih posEq_oi posEq_io sel_true sel_false
  okv_some step_mv step_call step_pick pickV_bool step_bin bin_add bin_sub bin_mul bin_eql bin_neq bin_lss bin_leq bin_gtr bin_geq bin_eqb bin_neb bin_eqs bin_nes step_un un_not un_neg step_len len_slice len_str len_const step_extract extractV nth step_convInt conv_int step_convStr step_slice step_idxAddr natOf_nat step_load step_index step_field step_fieldAddr step_build step_minmax
  step_alloc step_bslice bsliceV_some newV_some step_store step_append boolIs_b boolIs_t finQ_ret finQ_normal ressE_nil ressE_cons resE_tmp consO_some initE_nil initE_cons pos_0 pos_1 pos_2 pos_3 pos_4 pos_5 pos_6 pos_7 pos_8 plain_bool plain_int plain_str plain_ptr plain_slice plain_map plain_agg plain_func plain_nilFunc V.undef oneOf_one oneOf_two ble_self
open Go.Vabs.Pk Go.Vabs.Ph Go.Vabs.Sa Go.Vabs.Sb Go.Vabs.Sc Go.Vabs.Sd Go.Vabs.Se Go.Vabs.Sg Go.Vabs.Sh Go.Vabs.Sm Go.Vabs.Sn Go.Vabs.Sp Go.Vabs.Sr Go.Vabs.L2
attribute [local simp] step_nilchk nilchk_ptr cells_int cells_bool cells_str cells_slice cells_ptr cells_agg fieldAddrV natOf_zero fill repN splice over newV step_appendZ
  wp_dreg wpDs_nil wpDs_cons wantedE_none wantedE_some wpDGuard_true wpDGuard_lim wpDGuard_false wpDLim_true wpDVal_free wpDVal_lim back_limited next_limited limF_dir foot_load foot_convStr okAll_nil okAll_cons pastsOf nthP ahead few_next load_limited convStr_limited blt_dec okPair_dd okPair_dc okPair_cd okPair_cc anyIn_nil anyIn_same anyIn_cons meets_nil meets_nil'
/-- A parameter of whole numbers. -/
structure ParI (os : List (Option AObj)) (v : V) (zs : List Int) : Prop where
  ex : ∃ a r, v = .slice a 1 zs.length zs.length false ∧ (zs ≠ [] → a = some (r, 0) ∧ ∃ own, (os[r]?).join = some (.cells own (zs.map fun n => V.int .i64 n)))
  lt : ∀ n ∈ zs, -9223372036854775808 ≤ n ∧ n < 9223372036854775808
theorem ParI.keep {os os' : List (Option AObj)} {v : V} {zs : List Int} (h : ParI os v zs) (he : ∀ i, i < os.length → (os'[i]?).join = (os[i]?).join) : ParI os' v zs := by
  obtain ⟨a, r, h1, h2⟩ := h.ex
  exact ⟨⟨a, r, h1, fun hne => by obtain ⟨h3, own, h4⟩ := h2 hne; exact ⟨h3, own, by rw [he r (join_lt h4)]; exact h4⟩⟩, h.lt⟩
def allT : List (List Nat) := [[67, 79, 76, 82], [67, 80, 65, 76], [103, 108, 121, 102], [108, 111, 99, 97], [104, 101, 97, 100], [109, 97, 120, 112], [32, 32, 32, 32], [122, 122]]
def nameT (z : Int) : List Nat := allT.getD (pickI z 8).toNat []
def namesN (zs : List Int) (k : Nat) : List (List Nat) := (zs.take k).map nameT
def cutsN (bss : List (List Nat)) (k : Nat) : List (List Nat) := (bss.take k).map fun b => b.take 60
theorem namesN_succ {zs : List Int} {k : Nat} {z : Int} (h : zs[k]? = some z) : namesN zs (k + 1) = namesN zs k ++ [nameT z] := by unfold namesN; rw [List.take_add_one, h, List.map_append]; rfl
theorem namesN_len {zs : List Int} {k : Nat} (h : k ≤ zs.length) : (namesN zs k).length = k := by simp [namesN]; omega
theorem cutsN_succ {bss : List (List Nat)} {k : Nat} {b : List Nat} (h : bss[k]? = some b) : cutsN bss (k + 1) = cutsN bss k ++ [b.take 60] := by unfold cutsN; rw [List.take_add_one, h, List.map_append]; rfl
theorem cutsN_len {bss : List (List Nat)} {k : Nat} (h : k ≤ bss.length) : (cutsN bss k).length = k := by simp [cutsN]; omega
theorem tagsV_plain {q n : Nat} : (tagsV q n).plain = true := by unfold tagsV; split <;> rfl
def TablesPost (os : List (Option AObj)) (tags ts : List (List Nat)) (u : V) (os' : List (Option AObj)) : Prop :=
  ∃ q r, u = .tuple [tagsV q tags.length, tagsV r ts.length] ∧ Held os.length os os' q r tags ts
set_option maxHeartbeats 2000000 in
theorem Tables_run {call : CallT} {lf nP nF : Nat} (hlf : 20 ≤ lf) (hP : PickF call nP) (hF : FewF call nF) {os : List (Option AObj)} {v w : V} {bss : List (List Nat)} {zs : List Int} (hv : Par os v bss) (hw : ParI os w zs) (hbl : bss.length ≤ 140737488354000) (hzl : zs.length ≤ 140737488354000) {n : Nat} (hn : n = min (min bss.length zs.length) 9) :
    ∃ u os', enterF call lf [v, w] (few os) (tables_c nP nF) = some (u, few os') ∧ TablesPost os (namesN zs n) (cutsN bss n) u os' := by
  have main := enter_wp (call := call) (lf := lf) (n := 47) (args := [v, w]) (st := few os) (K := fun u st => ∃ os', st = few os' ∧ TablesPost os (namesN zs n) (cutsN bss n) u os') (c := (tables_c nP nF).code) (rs := (tables_c nP nF).results) ?_
  · obtain ⟨u, st', h1, os', rfl, h2⟩ := main
    exact ⟨u, os', h1, h2⟩
  · unfold tables_c
    dsimp only
    obtain ⟨a, r0, rfl, har, hrow⟩ := hv.ex
    obtain ⟨a', r1, rfl, har'⟩ := hw.ex
    obtain ⟨M, hM⟩ : ∃ M, M = bss.length := ⟨_, rfl⟩
    obtain ⟨Z, hZ⟩ : ∃ Z, Z = zs.length := ⟨_, rfl⟩
    rw [← hM, ← hZ]
    rw [← hM, ← hZ] at hn
    obtain ⟨N, hN⟩ : ∃ N, N = os.length := ⟨_, rfl⟩
    obtain ⟨D0, hD0⟩ : ∃ D, D = os ++ [some (AObj.cells true [.str [], .str [], .str [], .str [], .str [], .str [], .str [], .str []])] := ⟨_, rfl⟩
    have alD : (few os).alloc (.cells true [.str [], .str [], .str [], .str [], .str [], .str [], .str [], .str []]) = some (N, few D0) := by rw [hD0, hN]; exact few_alloc os _
    obtain ⟨D, hD⟩ : ∃ D, D = os ++ [some (AObj.cells true (strsV allT))] := ⟨_, rfl⟩
    have stD : storeV (few D0) 8 (.ptr (some (N, 0))) (some [.str [67, 79, 76, 82], .str [67, 80, 65, 76], .str [103, 108, 121, 102], .str [108, 111, 99, 97], .str [104, 101, 97, 100], .str [109, 97, 120, 112], .str [32, 32, 32, 32], .str [122, 122]]) = some (V.undef, few D) := by
      rw [store_fewC, ownAt_eq, hD0, hN]
      rw [show ((os ++ [some (AObj.cells true [.str [], .str [], .str [], .str [], .str [], .str [], .str [], .str []])])[os.length]?).join = some (AObj.cells true [.str [], .str [], .str [], .str [], .str [], .str [], .str [], .str []]) from by simp]
      show some (V.undef, few ((os ++ [some (AObj.cells true [.str [], .str [], .str [], .str [], .str [], .str [], .str [], .str []])]).set os.length (some (AObj.cells true (strsV allT))))) = _
      rw [List.set_append_right _ _ (Nat.le_refl _), Nat.sub_self, hD]
      rfl
    have hDl : D.length = N + 1 := by rw [hD]; simp [hN]
    have hDk : ∀ i, i < os.length → (D[i]?).join = (os[i]?).join := fun i hi => by rw [hD]; exact join_app hi
    have hDN : (D[N]?).join = some (AObj.cells true (strsV allT)) := by rw [hD, hN]; simp
    have hrowD := hrow.keep hDk (by omega)
    simp (disch := omega) [alD, stD]
    refine wp_loop (fun k s st => ∃ i X q r, i + k = n ∧ st = few X ∧ Held (N + 1) D X q r (namesN zs i) (cutsN bss i) ∧
      s .h = .slice a 1 M M false ∧ s (.o .h) = .slice a' 1 Z Z false ∧ s (.i (.i .h)) = .ptr (some (N, 0)) ∧ s (.o (.o (.o .h))) = tagsV q i ∧ s (.i (.o (.o .h))) = tagsV r i ∧ s (.o (.i (.o .h))) = .int .i64 (i : Int)) n ?_ (by omega) ?_
    · refine ⟨0, D, 0, 0, by omega, rfl, ⟨fun i hi => rfl, by omega, fun h => absurd (by simp [namesN]) h, fun h => absurd (by simp [cutsN]) h, fun h => absurd (by simp [namesN]) h⟩, ?_, ?_, ?_, ?_, ?_, ?_⟩ <;> simp [tagsV]
    · rintro k s st ⟨i, X0, q, r, hk, rfl, hH, s1, s2, s3, s4, s5, s6⟩
      obtain ⟨x0, hx0⟩ : ∃ x0, X0.length = x0 := ⟨_, rfl⟩
      have hle := hH.le
      have tgl := namesN_len (zs := zs) (k := i) (by omega)
      have cl := cutsN_len (bss := bss) (k := i) (by omega)
      cases k with
      | zero =>
        have hin : i = n := by omega
        subst hin
        have fin : TablesPost os (namesN zs i) (cutsN bss i) (.tuple [tagsV q i, tagsV r i]) X0 := by
          refine ⟨q, r, by rw [tgl, cl], ⟨fun j hj => by rw [hH.old j (by omega), hDk j hj], by omega, fun h => ⟨by have := (hH.tg h).1; omega, (hH.tg h).2⟩, fun h => ?_, hH.ne⟩⟩
          obtain ⟨h1, vs, h2, h3, h4⟩ := hH.tb h
          refine ⟨by omega, vs, h2, h3, fun j v b hv hb => ?_⟩
          obtain ⟨p, g1, g2, g3, g4, g5⟩ := h4 j v b hv hb
          exact ⟨p, g1, by omega, g3, g4, g5⟩
        by_cases hiM : i < M
        · by_cases hiZ : i < Z
          · have h9 : i = 9 := by omega
            simp (disch := omega) [s1, s2, s3, s4, s5, s6, dlt_t, dlt_f, dle_t, dle_f, dltn_t, dltn_f, dlen_t, dlen_f, deq_t, deq_f, deqn_t, deqn_f, tagsV_plain]
            exact ⟨X0, rfl, fin⟩
          · simp (disch := omega) [s1, s2, s3, s4, s5, s6, dlt_t, dlt_f, dle_t, dle_f, dltn_t, dltn_f, dlen_t, dlen_f, deq_t, deq_f, deqn_t, deqn_f, tagsV_plain]
            exact ⟨X0, rfl, fin⟩
        · simp (disch := omega) [s1, s2, s3, s4, s5, s6, dlt_t, dlt_f, dle_t, dle_f, dltn_t, dltn_f, dlen_t, dlen_f, deq_t, deq_f, deqn_t, deqn_f, tagsV_plain]
          exact ⟨X0, rfl, fin⟩
      | succ k =>
        have hin : i < n := by omega
        have hiM : i < M := by omega
        have hiZ : i < Z := by omega
        have hi9 : i < 9 := by omega
        obtain ⟨b, hb⟩ : ∃ b, bss[i]? = some b := ⟨_, List.getElem?_eq_getElem (by omega)⟩
        obtain ⟨z, hz⟩ : ∃ z, zs[i]? = some z := ⟨_, List.getElem?_eq_getElem (by omega)⟩
        have har := har (fun e => by rw [e] at hb; simp at hb)
        subst har
        obtain ⟨rfl, own1, hr1⟩ := har' (fun e => by rw [e] at hz; simp at hz)
        have hr1l := join_lt hr1
        have hbb := hv.lt b (List.mem_of_getElem? hb)
        have hbl2 := hv.len b (List.mem_of_getElem? hb)
        have ldz : loadV (few X0) false 1 (.ptr (some (r1, i))) = some (.int .i64 z) := by
          rw [load_few (show (X0[r1]?).join = some (.cells own1 (zs.map fun n => V.int .i64 n)) by rw [hH.old r1 (by omega), hDk r1 hr1l]; exact hr1), List.getElem?_map, hz]; rfl
        obtain ⟨c, hc⟩ : ∃ c, c = (pickI z 8).toNat := ⟨_, rfl⟩
        have hpk := pickI_lt (n := z) (m := 8) (by omega)
        have pk : ∀ st, call nP [.int .i64 z, .int .i64 8] st = some (.int .i64 (c : Int), st) := fun st => by
          rw [hP _ _ _ (by omega) (by omega)]
          rw [show pickI z 8 = (c : Int) from by omega]
        have ixc : idxAddrV (.arr 8 false 1) (.ptr (some (N, 0))) (some c) = some (.ptr (some (N, c))) := by
          show sel (Nat.blt c 8) (some (V.ptr (some (N, 0 + c * 1)))) none = _
          rw [blt_t (by omega), Nat.mul_one, Nat.zero_add]
          rfl
        obtain ⟨t, ht⟩ : ∃ t, t = nameT z := ⟨_, rfl⟩
        have hat : allT[c]? = some t := by
          rw [ht, nameT, ← hc, List.getD_eq_getElem?_getD]
          have : allT.length = 8 := rfl
          rw [List.getElem?_eq_getElem (by omega)]
          rfl
        have ldt : loadV (few X0) false 1 (.ptr (some (N, c))) = some (.str t) := by
          rw [load_few (show (X0[N]?).join = some (.cells true (strsV allT)) by rw [hH.old N (by omega)]; exact hDN), strsV_at, hat]; rfl
        -- the tag
        obtain ⟨X2, hX2⟩ : ∃ X2, X2 = X0 ++ [some (AObj.cells true [V.str t])] := ⟨_, rfl⟩
        have e2 : X2.length = x0 + 1 := by rw [hX2]; simp [hx0]
        have al2 : (few X0).alloc (.cells true [.str t]) = some (x0, few X2) := by rw [hX2, ← hx0]; exact few_alloc X0 _
        have fi2 : firstN (few X2) 1 1 (.slice (some (x0, 0)) 1 1 1 true) = some [V.str t] := by
          show sel (Nat.beq 1 1 && Nat.ble 1 1) ((few X2).loadN x0 0 (1 * 1)) none = _
          rw [loadN_few (own := true) (cs := [V.str t]) (by rw [hX2, ← hx0]; simp) (by simp)]
          rfl
        have tne : i ≠ 0 → namesN zs i ≠ [] := fun h0 e => h0 (by have := congrArg List.length e; rw [tgl] at this; exact this)
        have sne : i ≠ 0 → cutsN bss i ≠ [] := fun h0 e => h0 (by have := congrArg List.length e; rw [cl] at this; exact this)
        have hql : i ≠ 0 → q < X0.length := fun h0 => join_lt (hH.tg (tne h0)).2
        have g2 := growTags (os := X2) (q := q) (n := i) (ts := namesN zs i) (tag := t) tgl.symm (by omega) (fun h0 => by rw [hX2, join_app (hql h0)]; exact (hH.tg (tne h0)).2)
        obtain ⟨X3, hX3⟩ : ∃ X3, X3 = Sp.setK i X2 q ++ [some (AObj.cells true (strsV (namesN zs i ++ [t])))] := ⟨_, rfl⟩
        have e3 : X3.length = x0 + 2 := by rw [hX3]; simp [Sp.setK_len, e2]
        have g2 : appendV (few X2) 1 16 (tagsV q i) (some 1) (some [V.str t]) = some (.slice (some (x0 + 1, 0)) 1 (i + 1) (i + 1) false, few X3) := by rw [hX3, ← e2]; exact g2
        -- the table
        have hkeep3 : ∀ j, j < D.length → (X3[j]?).join = (D[j]?).join := fun j hj => by
          rw [hX3, join_app (by rw [Sp.setK_len]; omega), Sp.setK_at (fun h0 => by have := (hH.tg (tne h0)).1; omega), hX2, join_app (by omega), hH.old j (by omega)]
        obtain ⟨w, ldw, hwg, hwl, _⟩ := (hrowD.keep hkeep3 (by omega)).at_ hb
        obtain ⟨p, l4, hcl, hpl, hpb⟩ := clone_held (os := X3) (b := b.take 60)
        have fw := hF X3 w b 60 (lookB_at hwl) (by omega) (by omega)
        rw [hcl] at fw
        obtain ⟨X4, hX4⟩ : ∃ X4, X4 = X3 ++ l4 := ⟨_, rfl⟩
        rw [← hX4] at fw hpb
        obtain ⟨bl, hbl'⟩ : ∃ bl, bl = (b.take 60).length := ⟨_, rfl⟩
        obtain ⟨fb, hfb⟩ : ∃ fb, fb = decide (b.take 60 = []) := ⟨_, rfl⟩
        have hheld : heldV p (b.take 60) = .slice (some (p, 0)) 1 bl bl fb := by unfold heldV; rw [← hbl', ← hfb]
        rw [hheld] at fw
        have fw : call nF [w, .int .i64 60] (few X3) = some (.slice (some (p, 0)) 1 bl bl fb, few X4) := fw
        obtain ⟨x4, hx4⟩ : ∃ x4, X4.length = x4 := ⟨_, rfl⟩
        obtain ⟨X5, hX5⟩ : ∃ X5, X5 = X4 ++ [some (AObj.cells true [V.slice (some (p, 0)) 1 bl bl fb])] := ⟨_, rfl⟩
        have e5 : X5.length = x4 + 1 := by rw [hX5]; simp [hx4]
        have al5 : (few X4).alloc (.cells true [.slice (some (p, 0)) 1 bl bl fb]) = some (x4, few X5) := by rw [hX5, ← hx4]; exact few_alloc X4 _
        have fi5 : firstN (few X5) 1 1 (.slice (some (x4, 0)) 1 1 1 true) = some [V.slice (some (p, 0)) 1 bl bl fb] := by
          show sel (Nat.beq 1 1 && Nat.ble 1 1) ((few X5).loadN x4 0 (1 * 1)) none = _
          rw [loadN_few (own := true) (cs := [V.slice (some (p, 0)) 1 bl bl fb]) (by rw [hX5, ← hx4]; simp) (by simp)]
          rfl
        obtain ⟨vs, hvs, hvl⟩ : ∃ vs, (cutsN bss i ≠ [] → (X0[r]?).join = some (.cells true vs)) ∧ vs.length = i := by
          by_cases h0 : i = 0
          · exact ⟨[], fun h => absurd (by rw [h0]; simp [cutsN]) h, by rw [h0]; rfl⟩
          · obtain ⟨_, vs, h1, h2, _⟩ := hH.tb (sne h0)
            exact ⟨vs, fun _ => h1, by rw [h2, cl]⟩
        have l4e : X4.length = X3.length + l4.length := by rw [hX4, List.length_append]
        have hrl : i ≠ 0 → r < X0.length := fun h0 => join_lt (hvs (sne h0))
        have hrq : i ≠ 0 → r ≠ q := fun h0 => (hH.ne (tne h0) (sne h0)).symm
        have g5 := growVs (os := X5) (q := r) (n := i) (vs := vs) (v := V.slice (some (p, 0)) 1 bl bl fb) hvl.symm (by omega) (fun h0 => by
          have := hrl h0
          rw [hX5, join_app (by omega), hX4, join_app (by omega), hX3, join_app (by rw [Sp.setK_len]; omega), Sp.setK_at hrq, hX2, join_app this]; exact hvs (sne h0))
        obtain ⟨X6, hX6⟩ : ∃ X6, X6 = Sp.setK i X5 r ++ [some (AObj.cells true (vs ++ [heldV p (b.take 60)]))] := ⟨_, rfl⟩
        have g5 : appendV (few X5) 1 24 (tagsV r i) (some 1) (some [V.slice (some (p, 0)) 1 bl bl fb]) = some (.slice (some (x4 + 1, 0)) 1 (i + 1) (i + 1) false, few X6) := by rw [hX6, hheld, ← e5]; exact g5
        have hH6 := hH.next tgl cl hvs hvl hX2 hX3 hX4 hpl hpb hX5 hX6
        rw [ht, ← namesN_succ hz, ← cutsN_succ hb, e2, e5] at hH6
        simp (disch := omega) [s1, s2, s3, s4, s5, s6, dlt_t, dlt_f, dle_t, dle_f, dltn_t, dltn_f, dlen_t, dlen_f, deq_t, deq_f, deqn_t, deqn_f, wrap_i, natOf_int, idxAddr_slice, ldz, pk, ixc, ldt, al2, fi2, lenOf, firstNo, g2, ldw, fw, al5, fi5, g5]
        exact ⟨k, by omega, i + 1, by omega, X6, rfl, x0 + 1, x4 + 1, hH6, tagsV_succ.symm, tagsV_succ.symm, by omega⟩
def TablesF (call : CallT) (g : Nat) : Prop := ∀ os v w bss zs n, Par os v bss → ParI os w zs → bss.length ≤ 140737488354000 → zs.length ≤ 140737488354000 → n = min (min bss.length zs.length) 9 → ∃ u os', call g [v, w] (few os) = some (u, few os') ∧ TablesPost os (namesN zs n) (cutsN bss n) u os'
theorem TablesF.code {base : CallT} {g lf nP nF : Nat} (hlf : 20 ≤ lf) (hP : PickF base nP) (hF : FewF base nF) : TablesF (Vabs.withF base g lf (tables_c nP nF)) g := fun os v w bss zs n h1 h2 h3 h4 h5 => by
  rw [withF_same]; exact Tables_run hlf hP hF h1 h2 h3 h4 h5
theorem TablesF.withF {call : CallT} {n g lf : Nat} {fn : AFunc} (h : TablesF call n) (hne : n ≠ g) : TablesF (Vabs.withF call g lf fn) n := fun os v w bss zs m a b c d e => by rw [withF_other hne]; exact h os v w bss zs m a b c d e
theorem TablesF.other {call : CallT} {n g : Nat} {l : List V → St → Option (V × St)} (h : TablesF call n) (hne : n ≠ g) : TablesF (withL call g l) n := fun os v w bss zs m a b c d e => by rw [withL_other hne]; exact h os v w bss zs m a b c d e

end Go.Vabs.St

namespace Go.Vabs.Su
set_option linter.unusedVariables false
set_option linter.unusedSimpArgs false
set_option maxRecDepth 10000
attribute [local simp] wp_skip wp_ret wp_exit wp_reg wp_seq wp_cond wp_block thenQ_normal thenQ_ret thenQ_exit blockQ_normal blockQ_ret blockQ_exit wpCond_true wpCond_false wpOps_nil wpVal_some wpGuard_true wpGuard_false wpOps_guard wpOps_cons
  put_at put_no ev_c ev_slot posEq_h posEq_o posEq_i posEq_ho posEq_hi posEq_oh posEq_ih posEq_oi posEq_io sel_true sel_false
  okv_some step_mv step_call step_pick pickV_bool step_bin bin_add bin_sub bin_mul bin_eql bin_neq bin_lss bin_leq bin_gtr bin_geq bin_eqb bin_neb bin_eqs bin_nes step_un un_not un_neg step_len len_slice len_str len_const step_extract extractV nth step_convInt conv_int step_convStr step_slice step_idxAddr natOf_nat step_load step_index step_field step_fieldAddr step_build step_minmax
  step_alloc step_bslice bsliceV_some newV_some step_store step_append boolIs_b boolIs_t finQ_ret finQ_normal ressE_nil ressE_cons resE_tmp consO_some initE_nil initE_cons pos_0 pos_1 pos_2 pos_3 pos_4 pos_5 pos_6 pos_7 pos_8 plain_bool plain_int plain_str plain_ptr plain_slice plain_map plain_agg plain_func plain_nilFunc V.undef oneOf_one oneOf_two ble_self
open Go.Vabs.Pk Go.Vabs.Ph Go.Vabs.Sa Go.Vabs.Sb Go.Vabs.Sc Go.Vabs.Sd Go.Vabs.Se Go.Vabs.Sg Go.Vabs.Sh Go.Vabs.Sm Go.Vabs.Sn Go.Vabs.Sp Go.Vabs.Sr Go.Vabs.St Go.Vabs.L2
attribute [local simp] step_nilchk nilchk_ptr cells_int cells_bool cells_str cells_slice cells_ptr cells_agg fieldAddrV natOf_zero fill repN splice over newV step_appendZ
  wp_dreg wpDs_nil wpDs_cons wantedE_none wantedE_some wpDGuard_true wpDGuard_lim wpDGuard_false wpDLim_true wpDVal_free wpDVal_lim back_limited next_limited limF_dir foot_load foot_convStr okAll_nil okAll_cons pastsOf nthP ahead few_next load_limited convStr_limited blt_dec okPair_dd okPair_dc okPair_cd okPair_cc anyIn_nil anyIn_same anyIn_cons meets_nil meets_nil'
/- WHAT IS TOLD OF A FONT -/
/-- The reference's font in memory. -/
structure RFontMem (os : List (Option AObj)) (F : Nat) (L : List Itm) : Prop where
  f0 : (os[F]?).join = some (.cells true [tagsV (F + 1 + L.length) L.length, tagsV (F + 2 + L.length) L.length])
  ft : ∀ j x, L[j]? = some x → (os[F + 1 + j]?).join = some (newBytes x.2)
  tq : L ≠ [] → (os[F + 1 + L.length]?).join = some (.cells true (strsV (L.map (·.1))))
  tr : L ≠ [] → (os[F + 2 + L.length]?).join = some (.cells true (slsV L (idsOf' (F + 1) L.length)))
theorem RFontMem.keep {os os' : List (Option AObj)} {F : Nat} {L : List Itm} (h : RFontMem os F L) (he : ∀ i, i < os.length → (os'[i]?).join = (os[i]?).join) : RFontMem os' F L :=
  ⟨by rw [he _ (join_lt h.f0)]; exact h.f0, fun j x hx => by rw [he _ (join_lt (h.ft j x hx))]; exact h.ft j x hx, fun hne => by rw [he _ (join_lt (h.tq hne))]; exact h.tq hne, fun hne => by rw [he _ (join_lt (h.tr hne))]; exact h.tr hne⟩
theorem rfont_mem {os : List (Option AObj)} {L : List Itm} : RFontMem (os ++ (rfontObjs os.length L).map some) os.length L := by
  have atF : ∀ j o, (rfontObjs os.length L)[j]? = some o → ((os ++ (rfontObjs os.length L).map some)[os.length + j]?).join = some o := by
    intro j o hj
    rw [List.getElem?_append_right (by omega), Nat.add_sub_cancel_left, List.getElem?_map, hj]
    rfl
  refine ⟨atF 0 _ rfl, fun j x hx => ?_, fun hne => ?_, fun hne => ?_⟩
  · have hj := (List.getElem?_eq_some_iff.1 hx).1
    have := atF (1 + j) (newBytes x.2) (by
      unfold rfontObjs
      rw [List.getElem?_append_right (by simp), List.getElem?_append_left (by simp; omega)]
      simp [hx])
    rw [show os.length + 1 + j = os.length + (1 + j) from by omega]
    exact this
  · have := atF (1 + L.length) (.cells true (strsV (L.map (·.1)))) (by
      unfold rfontObjs
      rw [if_neg hne, List.getElem?_append_right (by simp), List.getElem?_append_right (by simp)]
      simp)
    rw [show os.length + 1 + L.length = os.length + (1 + L.length) from by omega]
    exact this
  · have := atF (2 + L.length) (.cells true (slsV L (idsOf' (os.length + 1) L.length))) (by
      unfold rfontObjs
      rw [if_neg hne, List.getElem?_append_right (by simp only [List.length_cons, List.length_nil]; omega), List.getElem?_append_right (by simp only [List.length_cons, List.length_nil, List.length_map]; omega)]
      simp only [List.length_cons, List.length_nil, List.length_map]
      rw [show 2 + L.length - (0 + 1) - L.length = 1 from by omega]
      rfl)
    rw [show os.length + 2 + L.length = os.length + (2 + L.length) from by omega]
    exact this
theorem RFontMem.at_ {os : List (Option AObj)} {F : Nat} {L : List Itm} (h : RFontMem os F L) : RAt os F (F + 1 + L.length) (F + 2 + L.length) (L.map (·.1)) (slsV L (idsOf' (F + 1) L.length)) :=
  ⟨⟨true, by rw [List.length_map]; exact h.f0⟩, fun e => ⟨true, h.tq (fun e' => e (by rw [e']; rfl))⟩, fun e => ⟨true, h.tr (fun e' => e (by rw [e']; rfl))⟩, by rw [sls_len (by simp [idsOf']), List.length_map], sls_plain⟩
/-- A table, told whether it is there. -/
theorem FontMem.ask {call : CallT} {g : Nat} (hT : TableF call g) (hN : TableNF call g) {os : List (Option AObj)} {F : Nat} {L : List Itm} (h : FontMem os F L) (hnd : (L.map (·.1)).Nodup) (hs : ∀ x ∈ L, x.2.length ≤ 140737488354816) (t : List Nat) :
    ∃ v l, call g [.ptr (some (F, 0)), .str t] (few os) = some (.tuple [v, .bool (decide (t ∈ L.map (·.1)))], few (os ++ l)) ∧ v.plain = true := by
  by_cases ht : t ∈ L.map (·.1)
  · rw [decide_eq_true ht]
    obtain ⟨x, hx, rfl⟩ := List.mem_map.1 ht
    obtain ⟨j, hj, hjx⟩ := List.mem_iff_getElem.1 hx
    have hj' : L[j]? = some x := by rw [List.getElem?_eq_getElem hj, hjx]
    have h1 := h.table hT hnd hj' (hs x hx)
    obtain ⟨p, l, hcl, _, _⟩ := clone_held (os := os) (b := x.2)
    rw [hcl] at h1
    exact ⟨_, l, h1, rfl⟩
  · rw [decide_eq_false ht]
    exact ⟨_, [], by rw [List.append_nil]; exact h.no hN ht, rfl⟩
theorem RFontMem.ask {call : CallT} {g : Nat} (hT : RTableF call g) {os : List (Option AObj)} {F : Nat} {L : List Itm} (h : RFontMem os F L) (hl : L.length ≤ 64) (t : List Nat) :
    ∃ v, call g [.ptr (some (F, 0)), .str t] (few os) = some (.tuple [v, .bool (decide (t ∈ L.map (·.1)))], few os) ∧ v.plain = true := by
  have h1 := hT os F _ _ _ _ t h.at_ (by rw [List.length_map]; exact hl)
  by_cases ht : t ∈ L.map (·.1)
  · rw [decide_eq_true ht]
    obtain ⟨v, hv, he⟩ := lookT_yes (vs := slsV L (idsOf' (F + 1) L.length)) (by rw [sls_len (by simp [idsOf']), List.length_map]) ht
    rw [he] at h1
    exact ⟨v, h1, sls_plain v hv⟩
  · rw [decide_eq_false ht]
    rw [lookT_no ht] at h1
    exact ⟨_, h1, rfl⟩
/-- What was read stands as bytes. -/
structure ParB (os : List (Option AObj)) (v : V) (bs : List Nat) : Prop where
  good : v.good os.length = true
  look : lookB (few os).look v = some bs
  len : bs.length ≤ 140737488354000
theorem bytes_param {os : List (Option AObj)} {v : V} {l : List Int} (h : ShowsRow (cInt .u8) os v l) (hok : ∀ n ∈ l, (cInt .u8).ok n) (hl : l.length * 1 ≤ 140737488354000) : ParB os v (l.map Int.toNat) := by
  obtain ⟨h1, h2, h3⟩ := row_bytes h hok
  exact ⟨h1, h2, by rw [List.length_map]; omega⟩
theorem ParB.keep {os os' : List (Option AObj)} {v : V} {bs : List Nat} (h : ParB os v bs) (he : ∀ i, i < os.length → (os'[i]?).join = (os[i]?).join) (hl : os.length ≤ os'.length) : ParB os' v bs :=
  ⟨V.good_le hl h.good, lookB_mono (sight_keep he hl) h.look, h.len⟩
end Go.Vabs.Su
