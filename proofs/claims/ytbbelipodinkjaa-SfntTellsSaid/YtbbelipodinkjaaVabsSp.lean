/-
  A font that is laid is read again: the walk of SfntBack.
-/
import Derived.Test.YtbbelipodinkjaaVabsSn
import Derived.Test.YtbbelipodinkjaaVabsZn
namespace Go.Vabs.Sp
set_option linter.unusedVariables false
set_option linter.unusedSimpArgs false
set_option maxRecDepth 10000
attribute [local simp] wp_skip wp_ret wp_exit wp_reg wp_seq wp_cond wp_block thenQ_normal thenQ_ret thenQ_exit blockQ_normal blockQ_ret blockQ_exit wpCond_true wpCond_false wpOps_nil wpVal_some wpGuard_true wpGuard_false wpOps_guard wpOps_cons
  put_at put_no ev_c ev_slot posEq_h posEq_o posEq_i posEq_ho posEq_hi posEq_oh posEq_ih posEq_oi posEq_io sel_true sel_false
  okv_some step_mv step_call step_pick pickV_bool step_bin bin_add bin_sub bin_mul bin_eql bin_neq bin_lss bin_leq bin_gtr bin_geq bin_eqb bin_neb bin_eqs bin_nes step_un un_not un_neg step_len len_slice len_str len_const step_extract extractV nth step_convInt conv_int step_convStr step_slice step_idxAddr natOf_nat step_load step_index step_field step_fieldAddr step_build step_minmax
  step_alloc step_bslice bsliceV_some newV_some step_store step_append boolIs_b boolIs_t finQ_ret finQ_normal ressE_nil ressE_cons resE_tmp consO_some initE_nil initE_cons pos_0 pos_1 pos_2 pos_3 pos_4 pos_5 pos_6 pos_7 pos_8 plain_bool plain_int plain_str plain_ptr plain_slice plain_map plain_agg plain_func plain_nilFunc V.undef oneOf_one oneOf_two ble_self
open Go.Vabs.Pk Go.Vabs.Ph Go.Vabs.Sa Go.Vabs.Sb Go.Vabs.Sc Go.Vabs.Sd Go.Vabs.Se Go.Vabs.Sg Go.Vabs.Sh Go.Vabs.Sm Go.Vabs.Sn Go.Vabs.L2
attribute [local simp] step_nilchk nilchk_ptr cells_int cells_bool cells_str cells_slice cells_ptr cells_agg fieldAddrV natOf_zero fill repN splice over newV
  wp_dreg wpDs_nil wpDs_cons wantedE_none wantedE_some wpDGuard_true wpDGuard_lim wpDGuard_false wpDLim_true wpDVal_free wpDVal_lim back_limited next_limited limF_dir foot_load foot_convStr okAll_nil okAll_cons pastsOf nthP ahead few_next load_limited convStr_limited blt_dec okPair_dd okPair_dc okPair_cd okPair_cc anyIn_nil anyIn_same anyIn_cons meets_nil meets_nil'
/- THE LAW OF TAGS -/
noncomputable def strL : List V → Option (List (List Nat))
  | [] => some []
  | .str s :: l => (strL l).map (s :: ·)
  | _ :: _ => none
theorem strL_strs : ∀ {ts : List (List Nat)}, strL (strsV ts) = some ts
  | [] => rfl
  | t :: ts => by
    show (strL (strsV ts)).map (t :: ·) = _
    rw [strL_strs]; rfl
theorem strL_some : ∀ {l : List V} {ts : List (List Nat)}, strL l = some ts → l = strsV ts
  | [], ts, h => by cases h; rfl
  | v :: l, ts, h => by
    unfold strL at h
    split at h
    · rename_i h'; cases h'
    · rename_i s l' h'
      cases h'
      obtain ⟨x, h1, rfl⟩ := Option.map_eq_some_iff.1 h
      rw [strL_some h1]; rfl
    · cases h
noncomputable def lookS (l : Sight) : V → Option (List (List Nat))
  | .slice none _ 0 0 true => some []
  | .slice (some (i, o)) 1 (n + 1) c _ => if n + 1 ≤ c then match l i with | some (.cells _ cs) => (match cut o (n + 1) cs with | some x => strL x | none => none) | _ => none else none
  | _ => none
theorem lookS_mono {l l' : Sight} (h : ∀ i o, l i = some o → l' i = some o) {v : V} {ts : List (List Nat)} (hb : lookS l v = some ts) : lookS l' v = some ts := by
  unfold lookS at hb ⊢
  split at hb
  · exact hb
  · split at hb
    · rename_i hnc
      rw [if_pos hnc]
      split at hb
      · rename_i own cs hl
        rw [h _ _ hl]
        exact hb
      · cases hb
    · cases hb
  · cases hb
noncomputable def tagsA (ts : List (List Nat)) : Ans := if ts = [] then ([], fun _ => .slice none 0 0 0 true) else ([.cells true (strsV ts)], fun k => .slice (some (k, 0)) 1 ts.length ts.length false)
noncomputable def tagsSpec : Nat → Sight → List V → Option Ans := fun _ l args =>
  match args with
  | [.ptr (some (F, 0))] => (match l F with | some (.cells _ (v :: _)) => (match lookS l v with | some ts => if ts.length ≤ 4096 then some (tagsA ts) else none | none => none) | _ => none)
  | _ => none
theorem tagsSpec_mono : MonoN tagsSpec := by
  intro n l l' args a h ha
  unfold tagsSpec at ha ⊢
  split at ha
  · split at ha
    · rename_i own v cs hl
      rw [h _ _ hl]
      dsimp only
      split at ha
      · rename_i ts hts
        rw [lookS_mono h hts]
        exact ha
      · cases ha
    · cases ha
  · cases ha
theorem CloneS_run {call : CallT} {lf : Nat} {os : List (Option AObj)} {v : V} {ts : List (List Nat)} (h : lookS (few os).look v = some ts) (hn : ts.length ≤ 4096) :
    ∃ w l, enterF call lf [v] (few os) CloneS_c = some (w, few (os ++ l)) ∧ ((ts = [] ∧ w = .slice none 0 0 0 true) ∨ (ts ≠ [] ∧ w = .slice (some (os.length + 1, 0)) 1 ts.length ts.length false ∧ l = [some (.cells true []), some (.cells true (strsV ts))])) := by
  unfold lookS at h
  split at h
  · rename_i e
    cases h
    refine ⟨.slice none 0 0 0 true, [], ?_, .inl ⟨rfl, rfl⟩⟩
    rw [List.append_nil]
    refine enter_eq ?_
    simp [bin_eqnil2]
  · rename_i i o n c f
    split at h
    · rename_i hnc
      split at h
      · rename_i own cs hl
        split at h
        · rename_i x hx
          have hxs := strL_some h
          obtain ⟨c1, c2⟩ := cut_take hx (by omega)
          obtain ⟨_, o', h2, _, h4⟩ := look_some hl
          obtain ⟨own', hg⟩ : ∃ own', (os[i]?).join = some (.cells own' cs) := by
            cases o' with
            | map _ _ _ => cases h4
            | cells own' cs' => cases h4; exact ⟨own', by rw [← few_get]; exact h2⟩
          have hlen : ts.length = n + 1 := by
            have : x.length = ts.length := by rw [hxs, strsV_len]
            rw [← c1, List.length_take, List.length_drop] at this
            omega
          have hA : ((os ++ [some (AObj.cells true [])])[i]?).join = some (.cells own' cs) := by rw [join_app (join_lt hg)]; exact hg
          obtain ⟨n1, hn1⟩ : ∃ n1, n1 = n + 1 := ⟨_, rfl⟩
          have hf : firstN (few (os ++ [some (AObj.cells true [])])) 1 n1 (.slice (some (i, o)) 1 n1 c f) = some (strsV ts) := by
            show sel (Nat.beq 1 1 && Nat.ble n1 n1) ((few (os ++ [some (AObj.cells true [])])).loadN i o (n1 * 1)) none = _
            rw [loadN_few hA (by omega), ble_t (Nat.le_refl _), Nat.mul_one, hn1, c1, hxs]
            rfl
          have happ := append_newE (os := os ++ [some (AObj.cells true [])]) (j := os.length) (n := n1) (e := 1) (bytes := 16) (new := strsV ts) (by simp) (by omega) (by rw [strsV_len, hlen, Nat.mul_one, hn1]) (by omega) (by omega)
          refine ⟨.slice (some (os.length + 1, 0)) 1 n1 n1 false, [some (AObj.cells true []), some (.cells true (strsV ts))], ?_, .inr ⟨fun e => by rw [e] at hlen; simp at hlen, by rw [hlen, hn1], rfl⟩⟩
          rw [show n.succ = n1 from hn1.symm]
          refine enter_eq ?_
          simp only [List.length_append, List.length_cons, List.length_nil, Nat.zero_add, List.append_assoc, List.cons_append, List.nil_append] at happ
          simp [bin_eqnil, few_alloc, lenOf, firstNo, hf, happ]
        · cases h
      · cases h
    · cases h
  · cases h
def CloneSF (call : CallT) (g : Nat) : Prop := ∀ os v ts, lookS (few os).look v = some ts → ts.length ≤ 4096 → ∃ w l, call g [v] (few os) = some (w, few (os ++ l)) ∧ ((ts = [] ∧ w = .slice none 0 0 0 true) ∨ (ts ≠ [] ∧ w = .slice (some (os.length + 1, 0)) 1 ts.length ts.length false ∧ l = [some (.cells true []), some (.cells true (strsV ts))]))
theorem CloneSF.code {base : CallT} {g lf : Nat} : CloneSF (Vabs.withF base g lf CloneS_c) g := fun os v ts h1 h2 => by rw [withF_same]; exact CloneS_run h1 h2
theorem CloneSF.withF {call : CallT} {n g lf : Nat} {fn : AFunc} (h : CloneSF call n) (hne : n ≠ g) : CloneSF (Vabs.withF call g lf fn) n := fun os v ts a b => by rw [withF_other hne]; exact h os v ts a b
theorem CloneSF.other {call : CallT} {n g : Nat} {l : List V → St → Option (V × St)} (h : CloneSF call n) (hne : n ≠ g) : CloneSF (withL call g l) n := fun os v ts a b => by rw [withL_other hne]; exact h os v ts a b
theorem Tags_sound {P : Program} {call : CallT} (hmix : P.follows .mixedOrders = true) (hs : Sound P call) {g nS : Nat} (hS : CloneSF call nS) (hc : compF P g = some (Tags_c nS)) : Sound P (withL call g (lawOf (sightRdN tagsSpec))) := by
  refine hs.sightN hmix 10 hc tagsSpec_mono fun os args new f hg hx => ?_
  unfold tagsSpec at hx
  split at hx
  · rename_i F
    split at hx
    · rename_i own v cs hl
      split at hx
      · rename_i ts hts
        split at hx
        · rename_i hle
          have hx : tagsA ts = (new, f) := Option.some.inj hx
          have hnew : new = (tagsA ts).1 := by rw [hx]
          have hff : f = (tagsA ts).2 := by rw [hx]
          subst hnew hff
          obtain ⟨_, o', h2, _, h4⟩ := look_some hl
          obtain ⟨own', hgF⟩ : ∃ own', (os[F]?).join = some (.cells own' (v :: cs)) := by
            cases o' with
            | map _ _ _ => cases h4
            | cells own' cs' => cases h4; exact ⟨own', by rw [← few_get]; exact h2⟩
          have h1 : loadV (few os) false 1 (.ptr (some (F, 0))) = some v := (load_few hgF).trans rfl
          obtain ⟨w, l, r1, r2⟩ := hS os v ts hts hle
          have hpl : w.plain = true := by rcases r2 with ⟨_, rfl⟩ | ⟨_, rfl, _⟩ <;> rfl
          have hvp : v.plain = true := by
            unfold lookS at hts
            split at hts
            · rfl
            · rfl
            · cases hts
          have hrun : enterF call 10 [.ptr (some (F, 0))] (few os) (Tags_c nS) = some (w, few (os ++ l)) := by
            refine enter_eq ?_
            simp [h1, r1, hpl, hvp]
          unfold tagsA
          rcases r2 with ⟨h3, rfl⟩ | ⟨h3, rfl, rfl⟩
          · rw [if_pos h3]
            exact ⟨_, _, [], hrun, Left.flat rfl⟩
          · rw [if_neg h3]
            exact ⟨_, _, [os.length + 1], hrun, Left.cells strsV_flat (Nat.le_refl _) (by show os.length ≤ os.length + 1; omega) (by rw [few_heap]; simp)⟩
        · cases hx
      · cases hx
    · cases hx
  · cases hx
theorem look_limC {fr : Bool} {os : List (Option AObj)} : (limF fr .call [] (few os)).look = (few os).look := rfl
/-- A font's tags, told in memory as it is or in one that is limited. -/
structure FontTags (os : List (Option AObj)) (F : Nat) (ts : List (List Nat)) : Prop where
  ex : ∃ own v cs, (os[F]?).join = some (.cells own (v :: cs)) ∧ goods os.length (v :: cs) = true ∧ lookS (few os).look v = some ts
  le : ts.length ≤ 4096
theorem FontTags.keep {os os' : List (Option AObj)} {F : Nat} {ts : List (List Nat)} (h : FontTags os F ts) (he : ∀ i, i < os.length → (os'[i]?).join = (os[i]?).join) (hl : os.length ≤ os'.length) : FontTags os' F ts := by
  obtain ⟨own, v, cs, h1, h2, h3⟩ := h.ex
  exact ⟨⟨own, v, cs, by rw [he F (join_lt h1)]; exact h1, goods_le hl h2, lookS_mono (sight_keep he hl) h3⟩, h.le⟩
theorem FontTags.spec {os : List (Option AObj)} {F : Nat} {ts : List (List Nat)} (h : FontTags os F ts) : tagsSpec os.length (few os).look [.ptr (some (F, 0))] = some (tagsA ts) := by
  obtain ⟨own, v, cs, h1, h2, h3⟩ := h.ex
  show (match (few os).look F with | some (.cells _ (v :: _)) => (match lookS (few os).look v with | some ts => if ts.length ≤ 4096 then some (tagsA ts) else none | none => none) | _ => none) = _
  rw [look_of (o := .cells own (v :: cs)) (by rw [few_next]; exact join_lt h1) (by rw [few_get]; exact h1) (by rw [few_next]; exact h2)]
  show (match lookS (few os).look v with | some ts => if ts.length ≤ 4096 then some (tagsA ts) else none | none => none) = _
  rw [h3]
  exact if_pos h.le
def TagsSF (call : CallT) (g : Nat) : Prop := ∀ os F ts, FontTags os F ts → call g [.ptr (some (F, 0))] (few os) = some ((tagsA ts).2 os.length, few (os ++ (tagsA ts).1.map some)) ∧
  (ts ≠ [] → ∀ fr, call g [.ptr (some (F, 0))] (limF fr .call [] (few os)) = some (.slice (some (os.length, 0)) 1 ts.length ts.length false, back (limF fr .call [] (few os)) (few (os ++ [some (.cells true (strsV ts))]))))
theorem tags_fact {call : CallT} {g : Nat} : TagsSF (withL call g (lawOf (sightRdN tagsSpec))) g := by
  intro os F ts h
  obtain ⟨own, v, cs, h1, h2, h3⟩ := h.ex
  have hF := join_lt h1
  refine ⟨?_, fun hne fr => ?_⟩
  · rw [sightN_call (by simp [goods, V.good, few_next]; exact hF)]
    rw [show (few os).next = os.length from few_next os, h.spec]
    exact lawOut_few
  · rw [sightN_call (by rw [next_limF, few_next]; simp [goods, V.good]; exact hF), next_limF, look_limC, few_next, h.spec]
    unfold tagsA
    rw [if_neg hne]
    exact lawOut_limC hidden_nil
theorem TagsSF.withF {call : CallT} {n g lf : Nat} {fn : AFunc} (h : TagsSF call n) (hne : n ≠ g) : TagsSF (Vabs.withF call g lf fn) n := fun os F ts a => by simp only [withF_other hne]; exact h os F ts a
theorem TagsSF.other {call : CallT} {n g : Nat} {l : List V → St → Option (V × St)} (h : TagsSF call n) (hne : n ≠ g) : TagsSF (withL call g l) n := fun os F ts a => by simp only [withL_other hne]; exact h os F ts a
/- WHAT IS OPENED -/
theorem row_cells {α : Type} {c : Codec α} (hw : c.w = 1) {os : List (Option AObj)} {cs : List V} {l : List α} {g : α → V} (hl : cs.length = l.length * c.w) (h : ∀ (j : Nat) (a : α), l[j]? = some a → c.shows os ((cs.drop (j * c.w)).take c.w) a) (hg : ∀ us a, c.shows os us a → us = [g a]) : cs = l.map g := by
  refine List.ext_getElem? fun j => ?_
  by_cases hj : j < l.length
  · have h1 := hg _ _ (h j l[j] (List.getElem?_eq_getElem hj))
    rw [hw, Nat.mul_one] at h1
    have h2 := congrArg (fun x : List V => x[0]?) h1
    simp only [List.getElem?_take, List.getElem?_drop] at h2
    simpa [hj] using h2
  · rw [List.getElem?_eq_none (by rw [hl, hw]; omega), List.getElem?_eq_none (by rw [List.length_map]; omega)]
theorem row_bytes {os : List (Option AObj)} {v : V} {l : List Int} (h : ShowsRow (cInt .u8) os v l) (hok : ∀ n ∈ l, (cInt .u8).ok n) : v.good os.length = true ∧ lookB (few os).look v = some (l.map Int.toNat) ∧ ∀ b ∈ l.map Int.toNat, b < 256 := by
  have hlt : ∀ b ∈ l.map Int.toNat, b < 256 := by
    intro b hb
    obtain ⟨n, hn, rfl⟩ := List.mem_map.1 hb
    have := u8_of_wf (hok n hn)
    omega
  rcases h with ⟨rfl, rfl⟩ | ⟨i, cs, rfl, h1, h2, h3⟩
  · exact ⟨rfl, rfl, hlt⟩
  · have hcs : cs = l.map fun n => V.int .u8 n := row_cells rfl h2 h3 fun us a h => h
    have hb : cs = bytesV (l.map Int.toNat) := by
      rw [hcs]
      unfold bytesV
      rw [List.map_map]
      refine List.map_congr_left fun n hn => ?_
      have := u8_of_wf (hok n hn)
      show V.int .u8 n = V.int .u8 ((n.toNat : Nat) : Int)
      congr 1
      omega
    have hi := join_lt h1
    refine ⟨by simp [V.good]; exact hi, ?_, hlt⟩
    have := lookB_of (st := few os) (i := i) (o := 0) (n := l.length) (c := l.length) (f := false) (own := false) (cs := cs) (bs := l.map Int.toNat) (by rw [few_next]; exact hi) (by rw [few_get]; exact h1) (by rw [few_next, hb]; exact goods_bytes) (Nat.le_refl _) (by rw [h2]; show 0 + l.length ≤ l.length * 1; omega) (by rw [List.drop_zero, List.take_of_length_le (by rw [h2]; show l.length * 1 ≤ _; omega), hb]) hlt
    exact this
/-- A parameter of bytes by bytes. -/
structure Par (os : List (Option AObj)) (v : V) (bss : List (List Nat)) : Prop where
  ex : ∃ a r, v = .slice a 1 bss.length bss.length false ∧ (bss ≠ [] → a = some (r, 0)) ∧ RowsB os r bss
  lt : ∀ b ∈ bss, ∀ x ∈ b, x < 256
  len : ∀ b ∈ bss, b.length ≤ 140737488351232
theorem rows_param {os : List (Option AObj)} {v : V} {l : List (List Int)} (h : ShowsRow (cRow (cInt .u8) 1) os v l) (hok : ∀ x ∈ l, (cRow (cInt .u8) 1).ok x) : Par os v (l.map fun x => x.map Int.toNat) := by
  refine ⟨?_, fun b hb x hx => ?_, fun b hb => ?_⟩
  · rcases h with ⟨rfl, rfl⟩ | ⟨i, cs, rfl, h1, h2, h3⟩
    · exact ⟨none, 0, rfl, fun h => absurd rfl h, ⟨fun h => absurd rfl h⟩⟩
    · refine ⟨some (i, 0), i, by rw [List.length_map]; rfl, fun _ => rfl, rows_own h1 (by rw [h2, List.length_map]; exact Nat.mul_one _) fun j v b hv hb => ?_⟩
      rw [List.getElem?_map, Option.map_eq_some_iff] at hb
      obtain ⟨x, hx, rfl⟩ := hb
      obtain ⟨u, hu, hs⟩ := h3 j x hx
      have e : v = u := by
        have h2 := congrArg (fun x : List V => x[0]?) hu
        simp only [List.getElem?_take, List.getElem?_drop] at h2
        have h2 : cs[j * 1 + 0]? = some u := h2
        rw [Nat.mul_one, Nat.add_zero, hv] at h2
        exact Option.some.inj h2
      subst e
      obtain ⟨r1, r2, _⟩ := row_bytes hs (hok x (List.mem_of_getElem? hx)).1
      exact ⟨r1, r2⟩
  · obtain ⟨y, hy, rfl⟩ := List.mem_map.1 hb
    obtain ⟨n, hn, rfl⟩ := List.mem_map.1 hx
    have := u8_of_wf ((hok y hy).1 n hn)
    omega
  · obtain ⟨y, hy, rfl⟩ := List.mem_map.1 hb
    have := (hok y hy).2
    rw [List.length_map]; omega
/- THE RUN -/
theorem growVs {os : List (Option AObj)} {q n : Nat} {vs : List V} {v : V} (hn : n = vs.length) (hs : n ≤ 64) (h : n ≠ 0 → (os[q]?).join = some (.cells true vs)) :
    appendV (few os) 1 24 (tagsV q n) (some 1) (some [v]) = some (.slice (some (os.length, 0)) 1 (n + 1) (n + 1) false, few ((if n = 0 then os else os.set q none) ++ [some (AObj.cells true (vs ++ [v]))])) := by
  unfold tagsV
  split
  · rename_i h0
    subst h0
    have : vs = [] := by cases vs with | nil => rfl | cons _ _ => simp at hn
    subst this
    rw [grow_none, if_pos (by simp)]
    rfl
  · rename_i h0
    have hg := h h0
    have ho : ownAt os q = some vs := by rw [ownAt_eq, hg]
    rw [grow_some, ho, growC_some, if_pos (by simp; omega)]
theorem tagsV_succ {q n : Nat} : tagsV q (n + 1) = .slice (some (q, 0)) 1 (n + 1) (n + 1) false := if_neg (by omega)
/-- A table of bytes that was put by. -/
def heldV (p : Nat) (b : List Nat) : V := .slice (some (p, 0)) 1 b.length b.length (decide (b = []))
theorem clone_held {os : List (Option AObj)} {b : List Nat} : ∃ p l, cloneR os b = (heldV p b, few (os ++ l)) ∧ os.length ≤ p ∧ ((os ++ l)[p]?).join = some (newBytes b) := by
  unfold cloneR
  split
  · rename_i e
    subst e
    exact ⟨os.length, _, rfl, Nat.le_refl _, by simp⟩
  · rename_i e
    refine ⟨os.length + 1, [some (newBytes []), some (newBytes b)], ?_, by omega, ?_⟩
    · unfold heldV; rw [decide_eq_false e]
    · simp
def setK (k : Nat) (os : List (Option AObj)) (q : Nat) : List (Option AObj) := if k = 0 then os else os.set q none
theorem setK_len {k : Nat} {os : List (Option AObj)} {q : Nat} : (setK k os q).length = os.length := by unfold setK; split <;> simp
theorem setK_at {k : Nat} {os : List (Option AObj)} {q i : Nat} (h : k ≠ 0 → i ≠ q) : ((setK k os q)[i]?).join = (os[i]?).join := by
  unfold setK
  split
  · rfl
  · rename_i h0; rw [join_set (fun e => h h0 e.symm)]
/-- Tags and tables, held. -/
structure Held (N : Nat) (os0 os : List (Option AObj)) (q r : Nat) (tags ts : List (List Nat)) : Prop where
  old : ∀ i, i < N → (os[i]?).join = (os0[i]?).join
  le : N ≤ os.length
  tg : tags ≠ [] → N ≤ q ∧ (os[q]?).join = some (.cells true (strsV tags))
  tb : ts ≠ [] → N ≤ r ∧ ∃ vs, (os[r]?).join = some (.cells true vs) ∧ vs.length = ts.length ∧ ∀ (j : Nat) (v : V) (b : List Nat), vs[j]? = some v → ts[j]? = some b → ∃ p, v = heldV p b ∧ N ≤ p ∧ (tags ≠ [] → p ≠ q) ∧ p ≠ r ∧ (os[p]?).join = some (newBytes b)
  ne : tags ≠ [] → ts ≠ [] → q ≠ r
theorem Held.rows {N : Nat} {os0 os : List (Option AObj)} {q r : Nat} {tags ts : List (List Nat)} (h : Held N os0 os q r tags ts) (hb : ∀ t ∈ ts, ∀ b ∈ t, b < 256) : RowsB os r ts := by
  refine ⟨fun hne => ?_⟩
  obtain ⟨_, vs, h1, h2, h3⟩ := h.tb hne
  refine ⟨true, vs, h1, h2, fun j v b hv hb' => ?_⟩
  obtain ⟨p, rfl, _, _, _, h4⟩ := h3 j v b hv hb'
  exact lookB_own h4 (hb b (List.mem_of_getElem? hb'))
/-- One round: X2 holds new things beside the elder ones; the tags grow, a table is put by, the tables grow. -/
theorem Held.next {N k : Nat} {os0 os : List (Option AObj)} {q r : Nat} {tags ts : List (List Nat)} (h : Held N os0 os q r tags ts) (hk : tags.length = k) (hk2 : ts.length = k) {l1 l2 l3 : List (Option AObj)} {tag b : List Nat} {vs : List V} {p : Nat}
    (hvs : ts ≠ [] → (os[r]?).join = some (.cells true vs)) (hvl : vs.length = k) {X2 X3 X4 X5 X6 : List (Option AObj)} (e2 : X2 = os ++ l1) (e3 : X3 = setK k X2 q ++ [some (.cells true (strsV (tags ++ [tag])))]) (e4 : X4 = X3 ++ l2) (hp : X3.length ≤ p) (hpb : (X4[p]?).join = some (newBytes b)) (e5 : X5 = X4 ++ l3) (e6 : X6 = setK k X5 r ++ [some (.cells true (vs ++ [heldV p b]))]) :
    Held N os0 X6 X2.length X5.length (tags ++ [tag]) (ts ++ [b]) := by
  have n2 : X2.length = os.length + l1.length := by rw [e2, List.length_append]
  have n3 : X3.length = X2.length + 1 := by rw [e3]; simp [setK_len]
  have n4 : X4.length = X3.length + l2.length := by rw [e4, List.length_append]
  have n5 : X5.length = X4.length + l3.length := by rw [e5, List.length_append]
  have n6 : X6.length = X5.length + 1 := by rw [e6]; simp [setK_len]
  have hle := h.le
  have hpX := join_lt hpb
  have tne : k ≠ 0 → tags ≠ [] := fun h0 e => h0 (by rw [← hk, e]; rfl)
  have sne : k ≠ 0 → ts ≠ [] := fun h0 e => h0 (by rw [← hk2, e]; rfl)
  have hrl : k ≠ 0 → r < os.length := fun h0 => join_lt (hvs (sne h0))
  have hql : k ≠ 0 → q < os.length := fun h0 => join_lt (h.tg (tne h0)).2
  have keep3 : ∀ i, i < os.length → (k ≠ 0 → i ≠ q) → (X3[i]?).join = (os[i]?).join := fun i hi hq => by
    rw [e3, join_app (by rw [setK_len]; omega), setK_at hq, e2, join_app hi]
  have keep6 : ∀ i, i < X5.length → (k ≠ 0 → i ≠ r) → (X6[i]?).join = (X5[i]?).join := fun i hi hr => by
    rw [e6, join_app (by rw [setK_len]; omega), setK_at hr]
  have k53 : ∀ i, i < X3.length → (X5[i]?).join = (X3[i]?).join := fun i hi => by rw [e5, join_app (by omega), e4, join_app hi]
  have keep : ∀ i, i < os.length → (k ≠ 0 → i ≠ q) → (k ≠ 0 → i ≠ r) → (X6[i]?).join = (os[i]?).join := fun i hi hq hr => by
    rw [keep6 i (by omega) hr, k53 i (by omega), keep3 i hi hq]
  have p6 : (X6[p]?).join = some (newBytes b) := by
    rw [keep6 p (by omega) (fun h0 => by have := hrl h0; omega), e5, join_app hpX, hpb]
  refine ⟨fun i hi => ?_, by omega, fun _ => ⟨by omega, ?_⟩, fun _ => ⟨by omega, vs ++ [heldV p b], ?_, by simp [hvl, hk2], fun j v c hv hc => ?_⟩, fun _ _ => by omega⟩
  · rw [keep i (by omega) (fun h0 => by have := (h.tg (tne h0)).1; omega) (fun h0 => by have := (h.tb (sne h0)).1; omega), h.old i hi]
  · rw [keep6 _ (by omega) (fun h0 => by have := hrl h0; omega), k53 _ (by omega), e3, List.getElem?_append_right (by rw [setK_len]; exact Nat.le_refl _), setK_len, Nat.sub_self]
    rfl
  · rw [e6, List.getElem?_append_right (by rw [setK_len]; exact Nat.le_refl _), setK_len, Nat.sub_self]
    rfl
  · by_cases hj : j < k
    · rw [List.getElem?_append_left (by omega)] at hv hc
      have h0 : k ≠ 0 := by omega
      obtain ⟨_, vs', g1, g2, g3⟩ := h.tb (sne h0)
      have : vs' = vs := by
        rw [hvs (sne h0)] at g1
        injection g1 with g1
        injection g1 with _ g1
        exact g1.symm
      subst this
      obtain ⟨p', g4, g5, g6, g7, g8⟩ := g3 j v c hv hc
      have hpl := join_lt g8
      exact ⟨p', g4, g5, fun _ => by omega, by omega, by rw [keep p' hpl (fun _ => g6 (tne h0)) (fun _ => g7)]; exact g8⟩
    · have hjk : j = k := by
        have := (List.getElem?_eq_some_iff.1 hc).1
        simp at this
        omega
      subst hjk
      rw [List.getElem?_append_right (by omega), hvl, Nat.sub_self] at hv
      rw [List.getElem?_append_right (by omega), hk2, Nat.sub_self] at hc
      cases hv
      cases hc
      exact ⟨p, rfl, by omega, fun _ => by omega, by omega, p6⟩
/- A FONT IN MEMORY -/
structure FontMem (os : List (Option AObj)) (F : Nat) (L : List Itm) : Prop where
  f0 : (os[F]?).join = some (.cells true [tagsV (F + 2 + L.length) L.length, .map (some (F + 1))])
  f1 : (os[F + 1]?).join = some (.map true (entsF 0 (kvsOf L (idsOf' (F + 2) L.length))) L.length)
  ft : ∀ j x, L[j]? = some x → (os[F + 2 + j]?).join = some (newBytes x.2)
  fq : L ≠ [] → (os[F + 2 + L.length]?).join = some (.cells true (strsV (L.map (·.1))))
theorem FontMem.keep {os os' : List (Option AObj)} {F : Nat} {L : List Itm} (h : FontMem os F L) (he : ∀ i, i < os.length → (os'[i]?).join = (os[i]?).join) : FontMem os' F L :=
  ⟨by rw [he _ (join_lt h.f0)]; exact h.f0, by rw [he _ (join_lt h.f1)]; exact h.f1, fun j x hx => by rw [he _ (join_lt (h.ft j x hx))]; exact h.ft j x hx, fun hne => by rw [he _ (join_lt (h.fq hne))]; exact h.fq hne⟩
theorem font_mem {os : List (Option AObj)} {L : List Itm} : FontMem (os ++ (fontObjs os.length L).map some) os.length L := by
  have atF : ∀ j o, (fontObjs os.length L)[j]? = some o → ((os ++ (fontObjs os.length L).map some)[os.length + j]?).join = some o := by
    intro j o hj
    rw [List.getElem?_append_right (by omega), Nat.add_sub_cancel_left, List.getElem?_map, hj]
    rfl
  refine ⟨atF 0 _ rfl, atF 1 _ rfl, fun j x hx => ?_, fun hne => ?_⟩
  · have hj := (List.getElem?_eq_some_iff.1 hx).1
    have := atF (2 + j) (newBytes x.2) (by
      unfold fontObjs
      rw [List.getElem?_append_right (by simp), List.getElem?_append_left (by simp; omega)]
      simp [hx])
    rw [show os.length + 2 + j = os.length + (2 + j) from by omega]
    exact this
  · have := atF (2 + L.length) (.cells true (strsV (L.map (·.1)))) (by
      unfold fontObjs
      rw [if_neg hne, List.getElem?_append_right (by simp), List.getElem?_append_right (by simp)]
      simp)
    rw [show os.length + 2 + L.length = os.length + (2 + L.length) from by omega]
    exact this
theorem open_mem {call : CallT} {nO : Nat} (hO : OpenF call nO) {os : List (Option AObj)} {v : V} {bs : List Nat} {L : List Itm} (hg : v.good os.length = true) (hl : lookB (few os).look v = some bs) (hb : bs.length ≤ 140737488351232) (hf : fontS bs = .inr L) :
    ∃ l, call nO [v] (few os) = some (.tuple [.ptr (some (os.length, 0)), .int .i64 0], few (os ++ l)) ∧ FontMem (os ++ l) os.length L := by
  have h := hO os v bs hg hl hb
  rw [show openA os.length bs = (fontObjs os.length L, fun k => .tuple [.ptr (some (k, 0)), .int .i64 0]) from by unfold openA; rw [hf]] at h
  exact ⟨_, h, font_mem⟩
theorem FontMem.tags {os : List (Option AObj)} {F : Nat} {L : List Itm} (h : FontMem os F L) (hl : L.length ≤ 4096) : FontTags os F (L.map (·.1)) := by
  refine ⟨⟨true, _, _, h.f0, ?_, ?_⟩, by rw [List.length_map]; exact hl⟩
  · have h1 := join_lt h.f1
    unfold tagsV
    split
    · simp [goods, V.good]; exact h1
    · rename_i h0
      have h2 := join_lt (h.fq (fun e => h0 (by rw [e]; rfl)))
      simp [goods, V.good]
      exact ⟨h2, h1⟩
  · unfold tagsV
    split
    · rename_i h0
      have : L = [] := List.length_eq_zero_iff.1 h0
      rw [this]
      rfl
    · rename_i h0
      have h2 := h.fq (fun e => h0 (by rw [e]; rfl))
      obtain ⟨n, hn⟩ : ∃ n, L.length = n + 1 := ⟨L.length - 1, by omega⟩
      rw [hn] at h2 ⊢
      show (if n + 1 ≤ n + 1 then match (few os).look _ with | some (.cells _ cs) => (match cut 0 (n + 1) cs with | some x => strL x | none => none) | _ => none else none) = _
      rw [if_pos (Nat.le_refl _), look_of (o := .cells true (strsV (L.map (·.1)))) (by rw [few_next]; exact join_lt h2) (by rw [few_get]; exact h2) (flats_good (List.all_eq_true.2 strsV_flat))]
      show (match cut 0 (n + 1) (strsV (L.map (·.1))) with | some x => strL x | none => none) = _
      have hsl : (strsV (L.map (·.1))).length = n + 1 := by rw [strsV_len, List.length_map, hn]
      rw [cut_of (by omega), List.drop_zero, List.take_of_length_le (by omega)]
      exact strL_strs
theorem FontMem.table {call : CallT} {g : Nat} (hT : TableF call g) {os : List (Option AObj)} {F : Nat} {L : List Itm} (h : FontMem os F L) (hnd : (L.map (·.1)).Nodup) {k : Nat} {x : Itm} (hx : L[k]? = some x) (hs : x.2.length ≤ 140737488354816) :
    call g [.ptr (some (F, 0)), .str x.1] (few os) = some (.tuple [(cloneR os x.2).1, .bool true], (cloneR os x.2).2) := by
  have hk := (List.getElem?_eq_some_iff.1 hx).1
  refine hT os F (F + 1) L.length (F + 2 + k) k true true _ _ x.1 x.2 h.f0 h.f1 ?_ ?_ (h.ft k x hx) hs
  · unfold kvsOf idsOf'
    rw [List.getElem?_zipWith, hx]
    simp [hk]
  · intro m hm kv hkv e
    have h1 : ((kvsOf L (idsOf' (F + 2) L.length)).map (·.1))[m]? = some kv.1 := by rw [List.getElem?_map, hkv]; rfl
    rw [kvs_keys (by simp [idsOf']), e] at h1
    have h2 : (L.map (·.1))[k]? = some x.1 := by rw [List.getElem?_map, hx]; rfl
    have := nodup_at' hnd h1 h2
    omega
def TableNF (call : CallT) (g : Nat) : Prop := ∀ (os : List (Option AObj)) (F M c : Nat) (o1 o2 : Bool) (tv : V) (kvs : List (List Nat × V)) (t : List Nat), (os[F]?).join = some (.cells o1 [tv, .map (some M)]) → (os[M]?).join = some (.map o2 (entsF 0 kvs) c) → (∀ kv ∈ kvs, kv.1 ≠ t) →
  call g [.ptr (some (F, 0)), .str t] (few os) = some (.tuple [.slice none 0 0 0 true, .bool false], few os)
theorem TableNF.code {base : CallT} {g lf nC : Nat} (hC : CloneN base nC) : TableNF (Vabs.withF base g lf (Table_c nC)) g := fun os F M c o1 o2 tv kvs t h1 h2 h3 => by rw [withF_same]; exact Table_no hC h1 h2 h3
theorem TableNF.withF {call : CallT} {n g lf : Nat} {fn : AFunc} (h : TableNF call n) (hne : n ≠ g) : TableNF (Vabs.withF call g lf fn) n := fun os F M c o1 o2 tv kvs t h1 h2 h3 => by rw [withF_other hne]; exact h os F M c o1 o2 tv kvs t h1 h2 h3
theorem TableNF.other {call : CallT} {n g : Nat} {l : List V → St → Option (V × St)} (h : TableNF call n) (hne : n ≠ g) : TableNF (withL call g l) n := fun os F M c o1 o2 tv kvs t h1 h2 h3 => by rw [withL_other hne]; exact h os F M c o1 o2 tv kvs t h1 h2 h3
theorem FontMem.no {call : CallT} {g : Nat} (hT : TableNF call g) {os : List (Option AObj)} {F : Nat} {L : List Itm} (h : FontMem os F L) {t : List Nat} (ht : ¬ t ∈ L.map (·.1)) :
    call g [.ptr (some (F, 0)), .str t] (few os) = some (.tuple [.slice none 0 0 0 true, .bool false], few os) :=
  hT os F (F + 1) L.length true true _ _ t h.f0 h.f1 fun kv hkv e => ht (by
    have : kv.1 ∈ (kvsOf L (idsOf' (F + 2) L.length)).map (·.1) := List.mem_map.2 ⟨kv, hkv, rfl⟩
    rw [kvs_keys (by simp [idsOf']), e] at this
    exact this)
/- THE RUN OF SFNTBACK -/
theorem flatten_le {l : List (List Nat)} {m : Nat} (h : ∀ t ∈ l, t.length ≤ m) : l.flatten.length ≤ m * l.length := by
  induction l with
  | nil => simp
  | cons t l ih =>
    have h1 := h t (List.mem_cons_self ..)
    have h2 := ih fun x hx => h x (List.mem_cons_of_mem _ hx)
    rw [List.flatten_cons, List.length_append, List.length_cons, Nat.mul_succ]
    omega
theorem held_str {os : List (Option AObj)} {p : Nat} {b : List Nat} (h : (os[p]?).join = some (newBytes b)) (hb : ∀ x ∈ b, x < 256) {c : Nat} {f : Bool} : convV (few os) .toStr (.slice (some (p, 0)) 1 b.length c f) = some (.str b) := by
  have := str_part (c := c) (f := f) (m := b.length) (n := b.length) (o := 0) h (by rw [bytesV_len]; omega) (by rw [List.drop_zero, List.take_of_length_le (by rw [bytesV_len]; exact Nat.le_refl _)]) hb 0 (by omega)
  rw [List.drop_zero, List.take_length] at this
  exact this
end Go.Vabs.Sp
