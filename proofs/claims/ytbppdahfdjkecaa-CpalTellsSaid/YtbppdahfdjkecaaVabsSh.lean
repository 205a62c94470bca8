/- Lemmas for this claim, text Sh. No condition. -/
import Derived.Test.YtbppdahfdjkecaaVabsSe
import Derived.Test.YtbppdahfdjkecaaVabsSb
namespace Go.Vabs.Sh
set_option linter.unusedVariables false
set_option linter.unusedSimpArgs false
set_option maxRecDepth 10000
def Concat_c (n_Grow : Nat) : AFunc := AFunc.mk 36 (.seq (.reg [AOper.mk (some (.i .h)) (.mv (.c (.slice none 0 0 0 true))) none]) (.seq (.reg [AOper.mk (some (.o (.o .h))) (.mv (.c (.int .i64 (.ofNat 0)))) none]) (.seq (.seq (.reg [AOper.mk (some (.o (.i (.o .h)))) (.mv (.t .h)) none, AOper.mk (some (.i (.i (.o .h)))) (.len .slice (.t (.o (.i (.o .h))))) none, AOper.mk (some (.o (.o (.i .h)))) (.mv (.c (.int .i64 (.ofNat 0)))) none]) (.block 0 (.loop (.seq (.reg [AOper.mk (some (.i (.o (.i .h)))) (.bin .lss (.val .int) (.t (.o (.o (.i .h)))) (.t (.i (.i (.o .h))))) none]) (.seq (.cond (.t (.i (.o (.i .h)))) .skip (.exit 0)) (.seq (.block 1 (.seq (.reg [AOper.mk (some (.o (.i (.i .h)))) (.idxAddr (.slice 1) (.t (.o (.i (.o .h)))) (.t (.o (.o (.i .h))))) none, AOper.mk (some (.i (.i (.i .h)))) (.load false 1 (.t (.o (.i (.i .h))))) none, AOper.mk (some (.o (.i .h))) (.mv (.t (.i (.i (.i .h))))) none]) (.seq (.reg [AOper.mk (some (.o (.i (.o (.o .h))))) (.len .slice (.t (.o (.i .h)))) none, AOper.mk (some (.i (.i (.o (.o .h))))) (.bin .add (.val .int) (.t (.o (.o .h))) (.t (.o (.i (.o (.o .h)))))) none, AOper.mk (some (.o (.o .h))) (.mv (.t (.i (.i (.o (.o .h)))))) none]) (.seq (.reg [AOper.mk (some (.i (.o (.i (.o .h))))) (.bin .lss (.val .int) (.t (.o (.o .h))) (.c (.int .i64 (.ofNat 0)))) none]) (.cond (.t (.i (.o (.i (.o .h))))) (.reg [AOper.mk (some (.o (.i (.i (.o .h))))) .fail none, AOper.mk none .fail none]) .skip))))) (.reg [AOper.mk (some (.i (.i (.i (.o .h))))) (.bin .add (.val .int) (.t (.o (.o (.i .h)))) (.c (.int .i64 (.ofNat 1)))) none, AOper.mk (some (.o (.o (.i .h)))) (.mv (.t (.i (.i (.i (.o .h)))))) none]))))))) (.seq (.reg [AOper.mk (some (.i (.o (.o (.i .h))))) (.call n_Grow [.c (.slice none 0 0 0 true), .t (.o (.o .h))]) none, AOper.mk (some (.i (.i .h))) (.mv (.t (.i (.o (.o (.i .h)))))) none]) (.seq (.seq (.reg [AOper.mk (some (.o (.i (.o (.i .h))))) (.mv (.t .h)) none, AOper.mk (some (.i (.i (.o (.i .h))))) (.len .slice (.t (.o (.i (.o (.i .h)))))) none, AOper.mk (some (.o (.o (.i (.i .h))))) (.mv (.c (.int .i64 (.ofNat 0)))) none]) (.block 2 (.loop (.seq (.reg [AOper.mk (some (.i (.o (.i (.i .h))))) (.bin .lss (.val .int) (.t (.o (.o (.i (.i .h))))) (.t (.i (.i (.o (.i .h)))))) none]) (.seq (.cond (.t (.i (.o (.i (.i .h))))) .skip (.exit 2)) (.seq (.block 3 (.seq (.reg [AOper.mk (some (.o (.i (.i (.i .h))))) (.idxAddr (.slice 1) (.t (.o (.i (.o (.i .h))))) (.t (.o (.o (.i (.i .h)))))) none, AOper.mk (some (.i (.i (.i (.i .h))))) (.load false 1 (.t (.o (.i (.i (.i .h)))))) none, AOper.mk (some (.i (.o (.o .h)))) (.mv (.t (.i (.i (.i (.i .h)))))) none]) (.reg [AOper.mk (some (.o (.i (.o (.o (.o .h)))))) (.append 1 1 (.t (.i (.i .h))) (.t (.i (.o (.o .h))))) none, AOper.mk (some (.i (.i .h))) (.mv (.t (.o (.i (.o (.o (.o .h))))))) none]))) (.reg [AOper.mk (some (.i (.i (.o (.o (.o .h)))))) (.bin .add (.val .int) (.t (.o (.o (.i (.i .h))))) (.c (.int .i64 (.ofNat 1)))) none, AOper.mk (some (.o (.o (.i (.i .h))))) (.mv (.t (.i (.i (.o (.o (.o .h))))))) none]))))))) (.seq (.reg [AOper.mk (some (.i .h)) (.mv (.t (.i (.i .h)))) none]) .ret)))))) [.tmp (.i .h)]
def Grow_c : AFunc := AFunc.mk 27 (.seq (.reg [AOper.mk (some (.i (.o .h))) (.mv (.c (.slice none 0 0 0 true))) none]) (.seq (.seq (.reg [AOper.mk (some (.i (.i .h))) (.bin .lss (.val .int) (.t (.o .h)) (.c (.int .i64 (.ofNat 0)))) none]) (.cond (.t (.i (.i .h))) (.reg [AOper.mk (some (.o (.o (.o .h)))) .fail none, AOper.mk none .fail none]) .skip)) (.seq (.seq (.reg [AOper.mk (some (.i (.i (.o .h)))) (.capOf (.t .h)) none, AOper.mk (some (.i (.o (.i .h)))) (.len .slice (.t .h)) none, AOper.mk (some (.o (.i (.i .h)))) (.bin .sub (.val .int) (.t (.i (.i (.o .h)))) (.t (.i (.o (.i .h))))) none, AOper.mk (some (.i (.i (.i .h)))) (.bin .sub (.val .int) (.t (.o .h)) (.t (.o (.i (.i .h))))) none, AOper.mk (some (.o .h)) (.mv (.t (.i (.i (.i .h))))) none]) (.seq (.reg [AOper.mk (some (.i (.o (.o (.o .h))))) (.bin .gtr (.val .int) (.t (.o .h)) (.c (.int .i64 (.ofNat 0)))) none]) (.cond (.t (.i (.o (.o (.o .h))))) (.reg [AOper.mk (some (.o (.o (.i (.o .h))))) (.capOf (.t .h)) none, AOper.mk (some (.i (.o (.i (.o .h))))) (.slice (.slice 1) (.t .h) none (some (.t (.o (.o (.i (.o .h)))))) none) none, AOper.mk (some (.i (.i (.i (.o .h))))) (.appendZ 1 1 [.int .u8 (.ofNat 0)] (.t (.i (.o (.i (.o .h))))) (.t (.o .h))) none, AOper.mk (some (.i (.o (.o (.i .h))))) (.len .slice (.t .h)) none, AOper.mk (some (.o (.i (.o (.i .h))))) (.slice (.slice 1) (.t (.i (.i (.i (.o .h))))) none (some (.t (.i (.o (.o (.i .h)))))) none) none, AOper.mk (some .h) (.mv (.t (.o (.i (.o (.i .h)))))) none]) .skip))) (.seq (.reg [AOper.mk (some (.i (.o .h))) (.mv (.t .h)) none]) .ret)))) [.tmp (.i (.o .h))]
attribute [local simp] wp_skip wp_ret wp_exit wp_reg wp_seq wp_cond wp_block thenQ_normal thenQ_ret thenQ_exit blockQ_normal blockQ_ret blockQ_exit wpCond_true wpCond_false wpOps_nil wpVal_some wpGuard_true wpGuard_false wpOps_guard wpOps_cons
  put_at put_no ev_c ev_slot posEq_h posEq_o posEq_i posEq_ho posEq_hi posEq_oh posEq_ih posEq_oi posEq_io sel_true sel_false
  okv_some step_mv step_call step_pick pickV_bool step_bin bin_add bin_sub bin_mul bin_eql bin_neq bin_lss bin_leq bin_gtr bin_geq bin_eqb bin_neb bin_eqs bin_nes step_un un_not un_neg step_len len_slice len_str len_const step_extract extractV nth step_convInt conv_int step_convStr step_slice step_idxAddr natOf_nat step_load step_index step_field step_fieldAddr step_build step_minmax
  step_alloc step_bslice bsliceV_some newV_some step_store step_append boolIs_b boolIs_t finQ_ret finQ_normal ressE_nil ressE_cons resE_tmp consO_some initE_nil initE_cons pos_0 pos_1 pos_2 pos_3 pos_4 pos_5 pos_6 pos_7 pos_8 plain_bool plain_int plain_str plain_ptr plain_slice plain_map plain_agg plain_func plain_nilFunc V.undef oneOf_one oneOf_two ble_self
open Go.Vabs.Pk Go.Vabs.Ph Go.Vabs.Sa Go.Vabs.Sb Go.Vabs.Sc Go.Vabs.Sg
attribute [local simp] fieldAddrV natOf_zero step_appendZ
noncomputable def lookBs (l : Sight) : List V → Option (List (List Nat))
  | [] => some []
  | v :: vs => match lookB l v, lookBs l vs with | some b, some bs => some (b :: bs) | _, _ => none
noncomputable def lookSL (l : Sight) : V → Option (List (List Nat))
  | .slice (some (i, o)) 1 n c _ => if n ≤ c then match l i with | some (.cells _ cs) => (match cut o n cs with | some vs => if vs.length = n then lookBs l vs else none | none => none) | _ => none else none
  | .slice none _ 0 0 _ => some []
  | _ => none
theorem lookBs_mono {l l' : Sight} (h : ∀ i o, l i = some o → l' i = some o) : ∀ {vs : List V} {bss : List (List Nat)}, lookBs l vs = some bss → lookBs l' vs = some bss
  | [], bss, hb => hb
  | v :: vs, bss, hb => by
    unfold lookBs at hb ⊢
    split at hb
    · rename_i b bs h1 h2
      rw [lookB_mono h h1, lookBs_mono h h2]
      exact hb
    · cases hb
theorem lookSL_mono {l l' : Sight} (h : ∀ i o, l i = some o → l' i = some o) {v : V} {bss : List (List Nat)} (hb : lookSL l v = some bss) : lookSL l' v = some bss := by
  unfold lookSL at hb ⊢
  split at hb
  · split at hb
    · rename_i hnc
      rw [if_pos hnc]
      split at hb
      · rename_i own cs hl
        rw [h _ _ hl]
        dsimp only
        split at hb
        · split at hb
          · rename_i hvl
            rw [if_pos hvl]
            exact lookBs_mono h hb
          · cases hb
        · cases hb
      · cases hb
    · cases hb
  · exact hb
  · cases hb
theorem lookBs_at {st : St} : ∀ {vs : List V} {bss : List (List Nat)}, lookBs st.look vs = some bss → vs.length = bss.length ∧ ∀ (j : Nat) (v : V) (b : List Nat), vs[j]? = some v → bss[j]? = some b → bytesAt st v = some b
  | [], bss, hb => by cases hb; exact ⟨rfl, fun j v b h => by cases h⟩
  | v :: vs, bss, hb => by
    unfold lookBs at hb
    split at hb
    · rename_i b bs h1 h2
      cases hb
      obtain ⟨hl, hr⟩ := lookBs_at h2
      refine ⟨by simp [hl], fun j v' b' hv hb' => ?_⟩
      cases j with
      | zero =>
        simp at hv hb'
        subst hv hb'
        exact lookB_at h1
      | succ j => exact hr j v' b' (by simpa using hv) (by simpa using hb')
    · cases hb
theorem takeN_cut : ∀ {n : Nat} {l r : List V}, takeN n l = some r → l.take n = r ∧ (n = 0 ∨ n ≤ l.length)
  | 0, l, r, h => by cases h; exact ⟨rfl, .inl rfl⟩
  | n + 1, [], r, h => by cases h
  | n + 1, x :: l, r, h => by
    have h : (match takeN n l with | some r => some (x :: r) | none => none) = some r := h
    split at h
    · rename_i r' hr
      cases h
      obtain ⟨h1, h2⟩ := takeN_cut hr
      exact ⟨by rw [List.take_succ_cons, h1], .inr (by simp; omega)⟩
    · cases h
theorem cut_take : ∀ {o n : Nat} {l r : List V}, cut o n l = some r → 0 < n → (l.drop o).take n = r ∧ o + n ≤ l.length
  | 0, n, l, r, h, hn => by
    have h : takeN n l = some r := by cases n <;> exact h
    obtain ⟨h1, h2⟩ := takeN_cut h
    exact ⟨h1, by omega⟩
  | o + 1, 0, l, r, h, hn => by omega
  | o + 1, n + 1, [], r, h, hn => by cases h
  | o + 1, n + 1, x :: l, r, h, hn => by
    have h : cut o (n + 1) l = some r := h
    obtain ⟨h1, h2⟩ := cut_take h (by omega)
    exact ⟨h1, by simp; omega⟩
theorem first_bytes {st : St} {v : V} {bs : List Nat} (h : bytesAt st v = some bs) : lenOf v = some bs.length ∧ firstN st 1 bs.length v = some (bytesV bs) := by
  by_cases hne : bs = []
  · subst hne
    have hl := len_bytes (st' := st) h
    cases v with
    | slice a e n c f =>
      have hn : n = 0 := by
        have : (n : Int) = 0 := by
          have hl : some (V.int .i64 (n : Int)) = some (V.int .i64 ((0 : Nat) : Int)) := hl
          simpa using hl
        omega
      subst hn
      refine ⟨rfl, ?_⟩
      cases a with
      | none => rfl
      | some p =>
        obtain ⟨i, o⟩ := p
        unfold bytesAt at h
        split at h
        · rename_i h1; cases h1
        · rename_i i o n c f h1
          cases h1
          split at h
          · split at h
            · rename_i own cs hg
              show sel (Nat.beq 1 1 && Nat.ble 0 0) (st.loadN _ _ (0 * 1)) none = _
              unfold St.loadN
              rw [hg, Nat.zero_mul]
              have : ∀ (o : Nat) (cs : List V), cut o 0 cs = some [] := fun o cs => by cases o <;> rfl
              dsimp only
              rw [this]
              rfl
            · cases h
          · cases h
        · cases h
    | _ => cases hl
  · obtain ⟨i, o, c, f, own, cs, rfl, hnc, hg, hm, hcs⟩ := bytesAt_place h hne
    refine ⟨rfl, ?_⟩
    show sel (Nat.beq 1 1 && Nat.ble bs.length bs.length) (st.loadN i o (bs.length * 1)) none = _
    unfold St.loadN
    rw [hg]
    dsimp only
    rw [cut_of (by omega), Nat.mul_one, hcs, ble_t (Nat.le_refl _)]
    rfl
theorem drop_l' {l r : List Nat} {k : Nat} (h : l.length = k) : (l ++ r).drop k = r := by subst h; exact List.drop_left
def sumT (bss : List (List Nat)) (i : Nat) : Nat := (bss.take i).flatten.length
theorem append_room {os : List (Option AObj)} {p n m t : Nat} {cs new : List V} (hp : (os[p]?).join = some (.cells true cs)) (hm : new.length = m) (ht : n + m ≤ t) (hc : cs.length = t) (hs : t ≤ 70368744177664) :
    appendV (few os) 1 1 (.slice (some (p, 0)) 1 n t false) (some m) (some new) = some (.slice (some (p, 0)) 1 (n + m) t false, few (os.set p (some (.cells true (cs.take n ++ new ++ cs.drop (n + m)))))) := by
  cases m with
  | zero =>
    have : new = [] := List.length_eq_zero_iff.1 hm
    subst this
    have e : cs.take n ++ [] ++ cs.drop (n + 0) = cs := by rw [List.append_nil, Nat.add_zero, List.take_append_drop]
    rw [e]
    have e2 : os.set p (some (.cells true cs)) = os := by
      have hlt := join_lt hp
      refine List.ext_getElem? fun i => ?_
      by_cases hi : p = i
      · subst hi
        rw [List.getElem?_set_self hlt]
        rw [List.getElem?_eq_getElem hlt] at hp ⊢
        exact congrArg some (by simpa using hp.symm)
      · rw [List.getElem?_set_ne hi]
    rw [e2]
    rfl
  | succ m =>
    show valOf (appendOp (few os) 1 1 (.slice (some (p, 0)) 1 n t false) (m + 1) new) = _
    unfold appendOp
    dsimp only
    rw [ble_t (show (2 * (n + (m + 1)) + 1024) * 1 ≤ 281474976710656 by omega), show Nat.beq new.length ((m + 1) * 1) = true from by rw [hm, Nat.mul_one]; exact Nat.beq_refl _, few_get, hp]
    dsimp only [Bool.and_self, sel_true, Nat.beq_refl]
    rw [ble_t ht]
    dsimp only [sel_true]
    unfold St.storeN
    rw [few_get, hp]
    dsimp only
    rw [splice_of (by omega)]
    dsimp only
    rw [few_set hp, Nat.zero_add, Nat.mul_one, hm]
    rfl
noncomputable def capV : V → Option V
  | .slice _ _ _ c true => some (.int .i64 (.ofNat c))
  | _ => none
theorem step_capOf {call : CallT} {s : Env} {st : St} {x : Src} : stepE call (.capOf x) s st = okv (capV (s.ev x)) st := by
  refine step_of ?_
  show ex_capOf x s.ev st = _
  unfold ex_capOf capV
  generalize s.ev x = u
  cases u <;> try rfl
  rename_i a e n c f
  cases f <;> rfl
attribute [local simp] step_capOf
theorem Grow_run {call : CallT} {lf : Nat} {os : List (Option AObj)} {t : Nat} (ht : t ≤ 70368744177664) :
    enterF call lf [.slice none 0 0 0 true, .int .i64 (t : Int)] (few os) Grow_c = some (if t = 0 then (.slice none 0 0 0 true, few os) else (.slice (some (os.length, 0)) 1 0 t false, few (os ++ [some (newBytes (List.replicate t 0))]))) := by
  have hsl : sliceOp (.slice 1) (.slice none 0 0 0 true) none (some (.int .i64 0)) none = some (.slice none 1 0 0 true) := rfl
  have hcap : capV (.slice none 0 0 0 true) = some (.int .i64 0) := rfl
  split
  · rename_i h0
    subst h0
    refine enter_eq ?_
    simp (disch := omega) [hcap, wrap_i]
  · rename_i h0
    obtain ⟨m, rfl⟩ : ∃ m, t = m + 1 := ⟨t - 1, by omega⟩
    obtain ⟨u, hu⟩ : ∃ u, u = m + 1 := ⟨_, rfl⟩
    rw [← hu]
    have hrep : repN u [V.int .u8 0] = bytesV (List.replicate u 0) := repN_zero u
    have hgr : appendV (few os) 1 1 (.slice none 1 0 0 true) (some u) (some (bytesV (List.replicate u 0))) = some (.slice (some (os.length, 0)) 1 u u false, few (os ++ [some (newBytes (List.replicate u 0))])) := by
      rw [hu]
      rw [grow_none, if_pos (by rw [bytesV_len]; simp; omega)]
      rfl
    have hsh : sliceOp (.slice 1) (.slice (some (os.length, 0)) 1 u u false) none (some (.int .i64 0)) none = some (.slice (some (os.length, 0)) 1 0 u false) := by
      rw [slice_hiF (by omega) (by omega) (by omega)]; rfl
    have hpos : 0 < u := by omega
    refine enter_eq ?_
    simp (disch := omega) [hcap, wrap_i, dlt_f, dlt_t, hpos, hsl, natOf_nat, hrep, hgr, hsh]
def GrowF (call : CallT) (g : Nat) : Prop := ∀ (os : List (Option AObj)) (t : Nat), t ≤ 70368744177664 → call g [.slice none 0 0 0 true, .int .i64 (t : Int)] (few os) = some (if t = 0 then (.slice none 0 0 0 true, few os) else (.slice (some (os.length, 0)) 1 0 t false, few (os ++ [some (newBytes (List.replicate t 0))])))
theorem GrowF.code {base : CallT} {g lf : Nat} : GrowF (Vabs.withF base g lf Grow_c) g := fun os t h => by rw [withF_same]; exact Grow_run h
structure SLat (os : List (Option AObj)) (v : V) (bss : List (List Nat)) : Prop where
  len : lenV (few os) .slice v = some (.int .i64 (bss.length : Int))
  at_ : ∀ k, k < bss.length → ∃ i o c f own cs w, v = .slice (some (i, o)) 1 bss.length c f ∧ (os[i]?).join = some (.cells own cs) ∧ cs[o + k]? = some w ∧ ∀ b, bss[k]? = some b → bytesAt (few os) w = some b
theorem lookSL_at {os : List (Option AObj)} {v : V} {bss : List (List Nat)} (h : lookSL (few os).look v = some bss) : SLat os v bss := by
  unfold lookSL at h
  split at h
  · rename_i i o n c f
    split at h
    · rename_i hnc
      split at h
      · rename_i own cs hl
        obtain ⟨_, o', h2, _, h4⟩ := look_some hl
        cases o' with
        | map _ _ _ => cases h4
        | cells own' cs' =>
          cases h4
          split at h
          · rename_i vs hvs
            split at h
            · rename_i hvl
              obtain ⟨l1, l2⟩ := lookBs_at h
              have hn : n = bss.length := by omega
              subst hn
              refine ⟨rfl, fun k hk => ?_⟩
              obtain ⟨e1, e2⟩ := cut_take hvs (by omega)
              obtain ⟨w, hw⟩ : ∃ w, vs[k]? = some w := ⟨_, List.getElem?_eq_getElem (by omega)⟩
              refine ⟨i, o, c, f, own', cs, w, rfl, by rw [← few_get]; exact h2, ?_, fun b hb => l2 k w b hw hb⟩
              rw [← e1, List.getElem?_take_of_lt hk, List.getElem?_drop] at hw
              exact hw
            · cases h
          · cases h
      · cases h
    · cases h
  · cases h
    exact ⟨rfl, fun k hk => by simp at hk⟩
  · cases h
theorem SLat.grow {os os' : List (Option AObj)} {v : V} {bss : List (List Nat)} (h : SLat os v bss) (he : ∀ i, i < os.length → (os'[i]?).join = (os[i]?).join) : SLat os' v bss := by
  refine ⟨?_, fun k hk => ?_⟩
  · have := h.len
    cases v <;> first | exact this | cases this
  · obtain ⟨i, o, c, f, own, cs, w, h1, h2, h3, h4⟩ := h.at_ k hk
    exact ⟨i, o, c, f, own, cs, w, h1, by rw [he i (join_lt h2)]; exact h2, h3, fun b hb => bytesAt_grow (h4 b hb) he⟩
theorem sum_take {bss : List (List Nat)} {k : Nat} {b : List Nat} (h : bss[k]? = some b) : (bss.take (k + 1)).flatten = (bss.take k).flatten ++ b := by
  rw [List.take_add_one, h]
  simp
theorem sum_le {bss : List (List Nat)} (k : Nat) : (bss.take k).flatten.length ≤ bss.flatten.length := by
  conv => rhs; rw [← List.take_append_drop k bss, List.flatten_append, List.length_append]
  omega
theorem Concat_run {call : CallT} {lf nG : Nat} (hG : GrowF call nG) {os : List (Option AObj)} {v : V} {bss : List (List Nat)} (h : SLat os v bss) (hlf : bss.length < lf) (hcn : bss.length ≤ 1099511627776) (hs : bss.flatten.length ≤ 70368744177664) :
    ∃ w l, enterF call lf [v] (few os) (Concat_c nG) = some (w, few (os ++ l)) ∧ ((bss.flatten = [] ∧ w = .slice none 0 0 0 true) ∨ (bss.flatten ≠ [] ∧ w = .slice (some (os.length, 0)) 1 bss.flatten.length bss.flatten.length false ∧ l = [some (newBytes bss.flatten)])) := by
  obtain ⟨fl, hfe⟩ : ∃ fl, bss.flatten = fl := ⟨_, rfl⟩
  rw [hfe] at hs ⊢
  have main := enter_wp (call := call) (lf := lf) (n := 36) (args := [v]) (st := few os) (K := fun w st => ∃ l, st = few (os ++ l) ∧ ((fl = [] ∧ w = .slice none 0 0 0 true) ∨ (fl ≠ [] ∧ w = .slice (some (os.length, 0)) 1 fl.length fl.length false ∧ l = [some (newBytes fl)]))) (c := (Concat_c nG).code) (rs := (Concat_c nG).results) ?_
  · obtain ⟨w, st', h1, l, rfl, h2⟩ := main
    exact ⟨w, l, h1, h2⟩
  · unfold Concat_c
    dsimp only
    have hbl := h.len
    obtain ⟨t, ht⟩ : ∃ t, t = fl.length := ⟨_, rfl⟩
    rw [← ht] at hs
    simp [hbl]
    refine wp_loop (fun k s st => ∃ i, i + k = bss.length ∧ st = few os ∧ s .h = v ∧ s (.o (.i (.o .h))) = v ∧ s (.i (.i (.o .h))) = .int .i64 (bss.length : Int) ∧ s (.o (.o (.i .h))) = .int .i64 (i : Int) ∧ s (.o (.o .h)) = .int .i64 (sumT bss i : Int)) bss.length ?_ hlf ?_
    · refine ⟨0, by omega, rfl, ?_, ?_, ?_, ?_, ?_⟩ <;> simp [sumT]
    · rintro k s st ⟨i, hi, rfl, s1, s2, s3, s4, s5⟩
      obtain ⟨u, hu⟩ : ∃ u, u = sumT bss i := ⟨_, rfl⟩
      rw [← hu] at s5
      have hut : u ≤ t := by rw [hu, ht, ← hfe]; exact sum_le (bss := bss) i
      cases k with
      | succ k =>
        have hlt : i < bss.length := by omega
        obtain ⟨b, hb⟩ : ∃ b, bss[i]? = some b := ⟨_, List.getElem?_eq_getElem hlt⟩
        obtain ⟨i0, o, c, f, own, cs, w, h1, h2, h3, h4⟩ := h.at_ i hlt
        have hw := h4 b hb
        have hwl := len_bytes (st' := few os) hw
        have ld : loadV (few os) false 1 (.ptr (some (i0, o + i))) = some w := by rw [load_few h2, h3]
        have hsum : sumT bss (i + 1) = u + b.length := by unfold sumT; rw [sum_take hb, List.length_append, hu]; rfl
        have hle : u + b.length ≤ t := by rw [← hsum, ht, ← hfe]; exact sum_le (bss := bss) (i + 1)
        rw [h1] at s2
        obtain ⟨n, hn⟩ : ∃ n, n = bss.length := ⟨_, rfl⟩
        rw [← hn] at s2 s3
        have hin : i < n := by omega
        simp (disch := omega) [s1, s2, s3, s4, s5, hin, dltn_t, dlt_f, natOf_int, idxAddr_slice, ld, hwl, wrap_i]
        refine ⟨k, by omega, i + 1, by omega, by rw [hn]; exact h1.symm, by omega, by omega, by rw [hsum]; omega⟩
      | zero =>
        have hin : i = bss.length := by omega
        subst hin
        have hut' : u = t := by rw [hu, ht, ← hfe]; unfold sumT; rw [List.take_length]
        rw [hut'] at s5
        have hg := hG os t (by omega)
        by_cases h0 : t = 0
        · rw [if_pos h0] at hg
          have hfl : fl = [] := List.length_eq_zero_iff.1 (by rw [← ht]; exact h0)
          simp (disch := omega) [s1, s2, s3, s4, s5, dltn_f, hg, hbl]
          refine wp_loop (fun k s st => ∃ i, i + k = bss.length ∧ st = few os ∧ s (.o (.i (.o (.i .h)))) = v ∧ s (.i (.i (.o (.i .h)))) = .int .i64 (bss.length : Int) ∧ s (.o (.o (.i (.i .h)))) = .int .i64 (i : Int) ∧ s (.i (.i .h)) = .slice none 0 0 0 true) bss.length ?_ hlf ?_
          · refine ⟨0, by omega, rfl, ?_, ?_, ?_, ?_⟩ <;> simp [s1]
          · rintro k s st ⟨i, hi, rfl, r1, r2, r3, r4⟩
            cases k with
            | zero =>
              have hin : i = bss.length := by omega
              subst hin
              simp (disch := omega) [r1, r2, r3, r4, dltn_f, hfl]
              exact ⟨[], by rw [List.append_nil]⟩
            | succ k =>
              have hlt : i < bss.length := by omega
              obtain ⟨b, hb⟩ : ∃ b, bss[i]? = some b := ⟨_, List.getElem?_eq_getElem hlt⟩
              have hb0 : b = [] := by
                have hm := List.mem_of_getElem? hb
                cases b with
                | nil => rfl
                | cons x b =>
                  have : x ∈ bss.flatten := List.mem_flatten.2 ⟨_, hm, List.mem_cons_self ..⟩
                  rw [hfe, hfl] at this; cases this
              subst hb0
              obtain ⟨i0, o, c, f, own, cs, w, h1, h2, h3, h4⟩ := h.at_ i hlt
              obtain ⟨hw1, hw2⟩ := first_bytes (h4 [] hb)
              have hw1 : lenOf w = some 0 := hw1
              have hw2 : firstN (few os) 1 0 w = some [] := hw2
              have ld : loadV (few os) false 1 (.ptr (some (i0, o + i))) = some w := by rw [load_few h2, h3]
              have hap : appendV (few os) 1 1 (.slice none 0 0 0 true) (some 0) (some []) = some (.slice none 0 0 0 true, few os) := rfl
              rw [h1] at r1
              obtain ⟨n, hn⟩ : ∃ n, n = bss.length := ⟨_, rfl⟩
              rw [← hn] at r1 r2
              have hin : i < n := by omega
              simp (disch := omega) [r1, r2, r3, r4, hin, dltn_t, natOf_int, idxAddr_slice, ld, hw1, firstNo, hw2, hap, wrap_i]
              exact ⟨k, by omega, i + 1, by omega, by rw [hn]; exact h1.symm, by omega, by omega⟩
        · rw [if_neg h0] at hg
          have hfl : fl ≠ [] := fun e => h0 (by rw [ht, e]; rfl)
          have hbl2 : ∀ x, lenV (few (os ++ x)) .slice v = some (.int .i64 (bss.length : Int)) := fun x => (h.grow (fun i hi => join_app hi)).len
          simp (disch := omega) [s1, s2, s3, s4, s5, dltn_f, hg, hbl2]
          refine wp_loop (fun k s st => ∃ i, i + k = bss.length ∧ st = few (os ++ [some (newBytes ((bss.take i).flatten ++ List.replicate (t - sumT bss i) 0))]) ∧ s (.o (.i (.o (.i .h)))) = v ∧ s (.i (.i (.o (.i .h)))) = .int .i64 (bss.length : Int) ∧ s (.o (.o (.i (.i .h)))) = .int .i64 (i : Int) ∧ s (.i (.i .h)) = .slice (some (os.length, 0)) 1 (sumT bss i) t false) bss.length ?_ hlf ?_
          · refine ⟨0, by omega, ?_, ?_, ?_, ?_, ?_⟩ <;> simp [s1, sumT]
          · rintro k s st ⟨i, hi, rfl, r1, r2, r3, r4⟩
            cases k with
            | zero =>
              have hin : i = bss.length := by omega
              subst hin
              have hsl : sumT bss bss.length = t := by unfold sumT; rw [List.take_length, ht, hfe]
              rw [hsl] at r4
              have hmem : few (os ++ [some (newBytes ((bss.take bss.length).flatten ++ List.replicate (t - sumT bss bss.length) 0))]) = few (os ++ [some (newBytes fl)]) := by
                rw [hsl, Nat.sub_self, List.take_length, List.replicate_zero, List.append_nil, hfe]
              rw [hmem]
              simp (disch := omega) [r1, r2, r3, r4, dltn_f, hfl]
              exact ht
            | succ k =>
              have hlt : i < bss.length := by omega
              obtain ⟨b, hb⟩ : ∃ b, bss[i]? = some b := ⟨_, List.getElem?_eq_getElem hlt⟩
              obtain ⟨X, hX⟩ : ∃ X, X = os ++ [some (newBytes ((bss.take i).flatten ++ List.replicate (t - sumT bss i) 0))] := ⟨_, rfl⟩
              have hgr : SLat X v bss := h.grow (fun i hi => by rw [hX]; exact join_app hi)
              obtain ⟨i0, o, c, f, own, cs, w, h1, h2, h3, h4⟩ := hgr.at_ i hlt
              obtain ⟨hw1, hw2⟩ := first_bytes (h4 b hb)
              have ld : loadV (few X) false 1 (.ptr (some (i0, o + i))) = some w := by rw [load_few h2, h3]
              obtain ⟨u, hu⟩ : ∃ u, u = sumT bss i := ⟨_, rfl⟩
              have hul : ((bss.take i).flatten).length = u := hu.symm
              have hsum : sumT bss (i + 1) = u + b.length := by unfold sumT; rw [sum_take hb, List.length_append, hul]
              have hle : u + b.length ≤ t := by rw [← hsum, ht, ← hfe]; exact sum_le (bss := bss) (i + 1)
              rw [← hu] at r4 hX
              have hXp : (X[os.length]?).join = some (.cells true (bytesV ((bss.take i).flatten ++ List.replicate (t - u) 0))) := by rw [hX]; simp [newBytes]
              have hroom := append_room (n := u) (m := b.length) (t := t) (new := bytesV b) hXp (bytesV_len ..) hle (by rw [bytesV_len, List.length_append, hul, List.length_replicate]; omega) (by omega)
              obtain ⟨X', hX'⟩ : ∃ X', X' = X.set os.length (some (.cells true ((bytesV ((bss.take i).flatten ++ List.replicate (t - u) 0)).take u ++ bytesV b ++ (bytesV ((bss.take i).flatten ++ List.replicate (t - u) 0)).drop (u + b.length)))) := ⟨_, rfl⟩
              rw [← hX'] at hroom
              have hnext : X' = os ++ [some (newBytes ((bss.take (i + 1)).flatten ++ List.replicate (t - sumT bss (i + 1)) 0))] := by
                rw [hX', hX, hsum, sum_take hb]
                have e1 : (bytesV ((bss.take i).flatten ++ List.replicate (t - u) 0)).take u = bytesV (bss.take i).flatten := by
                  rw [bytesV_take, List.take_append_of_le_length (by omega), List.take_of_length_le (by omega)]
                have e2 : (bytesV ((bss.take i).flatten ++ List.replicate (t - u) 0)).drop (u + b.length) = bytesV (List.replicate (t - (u + b.length)) 0) := by
                  rw [bytesV_drop, ← List.drop_drop, drop_l' hul, List.drop_replicate, show t - u - b.length = t - (u + b.length) from by omega]
                rw [e1, e2, List.set_append_right _ _ (Nat.le_refl _), Nat.sub_self]
                simp [newBytes, bytesV]
              rw [h1] at r1
              obtain ⟨n, hn⟩ : ∃ n, n = bss.length := ⟨_, rfl⟩
              rw [← hn] at r1 r2
              have hin : i < n := by omega
              rw [← hu, ← hX]
              simp (disch := omega) [r1, r2, r3, r4, hin, dltn_t, natOf_int, idxAddr_slice, ld, hw1, firstNo, hw2, hroom, wrap_i]
              exact ⟨k, by omega, i + 1, by omega, by rw [hnext], by rw [hn]; exact h1.symm, by omega, by omega, by rw [hsum]⟩
noncomputable def concatA (fl : List Nat) : Ans := if fl = [] then ([], fun _ => .slice none 0 0 0 true) else ([newBytes fl], fun k => .slice (some (k, 0)) 1 fl.length fl.length false)
noncomputable def concatSpec : Nat → Sight → List V → Option Ans := fun _ l args =>
  match args with
  | [v] => match lookSL l v with | some bss => if bss.length ≤ 4096 ∧ bss.flatten.length ≤ 70368744177664 then some (concatA bss.flatten) else none | none => none
  | _ => none
theorem concatSpec_mono : MonoN concatSpec := by
  intro n l l' args a h ha
  unfold concatSpec at ha ⊢
  split at ha
  · split at ha
    · rename_i bss hbs
      rw [lookSL_mono h hbs]
      exact ha
    · cases ha
  · cases ha
theorem Concat_sound {P : Program} {call : CallT} (hmix : P.follows .mixedOrders = true) (hs : Sound P call) {g nG : Nat} (hG : GrowF call nG) (hc : compF P g = some (Concat_c nG)) : Sound P (withL call g (lawOf (sightRdN concatSpec))) := by
  refine hs.sightN hmix 5000 hc concatSpec_mono fun os args new f hg hx => ?_
  unfold concatSpec at hx
  split at hx
  · rename_i v
    split at hx
    · rename_i bss hbs
      split at hx
      · rename_i hl
        have hx : concatA bss.flatten = (new, f) := Option.some.inj hx
        have hnew : new = (concatA bss.flatten).1 := by rw [hx]
        have hff : f = (concatA bss.flatten).2 := by rw [hx]
        subst hnew hff
        obtain ⟨w, l, h1, h2⟩ := Concat_run (lf := 5000) hG (lookSL_at hbs) (by omega) (by omega) hl.2
        unfold concatA
        rcases h2 with ⟨h3, rfl⟩ | ⟨h3, rfl, rfl⟩
        · rw [if_pos h3]
          exact ⟨_, _, [], h1, Left.flat rfl⟩
        · rw [if_neg h3]
          exact ⟨_, _, [os.length], h1, Left.cells bytesV_flat (Nat.le_refl _) (Nat.le_refl _) (by rw [few_heap]; simp [newBytes])⟩
      · cases hx
    · cases hx
  · cases hx
def ConcatF (call : CallT) (g : Nat) : Prop := ∀ os v bss, v.good os.length = true → lookSL (few os).look v = some bss → bss.length ≤ 4096 → bss.flatten.length ≤ 70368744177664 → call g [v] (few os) = some ((concatA bss.flatten).2 os.length, few (os ++ (concatA bss.flatten).1.map some))
theorem concat_fact {call : CallT} {g : Nat} : ConcatF (withL call g (lawOf (sightRdN concatSpec))) g := by
  intro os v bss hg hb h1 h2
  rw [sightN_call (by simp [goods, hg, few_next])]
  unfold concatSpec
  dsimp only
  rw [hb]
  dsimp only
  rw [if_pos ⟨h1, h2⟩]
  exact lawOut_few
end Go.Vabs.Sh

namespace Go.Vabs.Sm
open Go.Vabs.Pk Go.Vabs.Sb Go.Vabs.Sc Go.Vabs.Sd
set_option linter.unusedVariables false
abbrev Itm := List Nat × List Nat
def recL (tag : List Nat) (at' size : Nat) : List Nat := tag ++ ([0, 0, 0, 0] ++ (bigB at' 4 ++ bigB size 4))
def recsL : Nat → List Itm → List Nat
  | _, [] => []
  | a, x :: l => recL x.1 a x.2.length ++ recsL (a + x.2.length) l
def flatT (l : List Itm) : List Nat := (l.map (·.2)).flatten
def headL (n : Nat) : List Nat := [0, 1, 0, 0, 0, n, 0, 0, 0, 0, 0, 0]
def layL (l : List Itm) : List Nat := headL l.length ++ (recsL (12 + 16 * l.length) l ++ flatT l)
def Tagged (l : List Itm) : Prop := ∀ x ∈ l, x.1.length = 4
theorem recL_len {tag : List Nat} {a z : Nat} (h : tag.length = 4) : (recL tag a z).length = 16 := by simp [recL, bigB_len, h]
theorem recsL_len : ∀ {l : List Itm} {a : Nat}, Tagged l → (recsL a l).length = 16 * l.length
  | [], _, _ => rfl
  | x :: l, a, h => by
    show (recL x.1 a x.2.length ++ recsL (a + x.2.length) l).length = _
    rw [List.length_append, recL_len (h x (List.mem_cons_self ..)), recsL_len fun y hy => h y (List.mem_cons_of_mem _ hy), List.length_cons]
    omega
theorem recsL_snoc : ∀ {l : List Itm} {a : Nat} {x : Itm}, recsL a (l ++ [x]) = recsL a l ++ recL x.1 (a + (flatT l).length) x.2.length
  | [], a, x => by simp [recsL, flatT]
  | y :: l, a, x => by
    show recL y.1 a y.2.length ++ recsL (a + y.2.length) (l ++ [x]) = (recL y.1 a y.2.length ++ recsL (a + y.2.length) l) ++ _
    rw [recsL_snoc, List.append_assoc]
    congr 3
    simp [flatT]
    omega
theorem flatT_snoc {l : List Itm} {x : Itm} : flatT (l ++ [x]) = flatT l ++ x.2 := by simp [flatT]
theorem headL_len {n : Nat} : (headL n).length = 12 := rfl
theorem layL_len {l : List Itm} (h : Tagged l) : (layL l).length = 12 + 16 * l.length + (flatT l).length := by
  unfold layL
  rw [List.length_append, List.length_append, headL_len, recsL_len h]
  omega
theorem recsL_at : ∀ {l : List Itm} {a k : Nat} {x : Itm}, Tagged l → l[k]? = some x → ∃ r, (recsL a l).drop (16 * k) = recL x.1 (a + (flatT (l.take k)).length) x.2.length ++ r
  | [], a, k, x, _, h => by simp at h
  | y :: l, a, 0, x, _, h => by
    have h : some y = some x := h
    cases h
    exact ⟨_, rfl⟩
  | y :: l, a, k + 1, x, ht, h => by
    have hy := recL_len (a := a) (z := y.2.length) (ht y (List.mem_cons_self ..))
    obtain ⟨r, hr⟩ := recsL_at (a := a + y.2.length) (k := k) (x := x) (fun z hz => ht z (List.mem_cons_of_mem _ hz)) h
    refine ⟨r, ?_⟩
    show (recL y.1 a y.2.length ++ recsL (a + y.2.length) l).drop (16 * (k + 1)) = _
    rw [show 16 * (k + 1) = 16 + 16 * k from by omega, ← List.drop_drop, drop_l hy, hr]
    congr 2
    simp [flatT]
    omega
theorem lay_at {l : List Itm} {k : Nat} {x : Itm} (ht : Tagged l) (h : l[k]? = some x) : ∃ r, (layL l).drop (12 + 16 * k) = recL x.1 (12 + 16 * l.length + (flatT (l.take k)).length) x.2.length ++ r := by
  obtain ⟨r, hr⟩ := recsL_at (a := 12 + 16 * l.length) ht h
  have hk := (List.getElem?_eq_some_iff.1 h).1
  unfold layL
  rw [← List.drop_drop, drop_l headL_len, List.drop_append_of_le_length (by rw [recsL_len ht]; omega), hr]
  exact ⟨_, List.append_assoc ..⟩
theorem flat_le {l : List Itm} {k : Nat} {x : Itm} (h : l[k]? = some x) : (flatT (l.take k)).length + x.2.length ≤ (flatT l).length := by
  have hk := (List.getElem?_eq_some_iff.1 h).1
  have e : l = l.take k ++ x :: l.drop (k + 1) := by
    have h2 : l.drop k = x :: l.drop (k + 1) := by
      rw [List.drop_eq_getElem_cons hk]
      congr 1
      exact (List.getElem?_eq_some_iff.1 h).2
    rw [← h2, List.take_append_drop]
  have e2 : (flatT l).length = (flatT (l.take k ++ x :: l.drop (k + 1))).length := by rw [← e]
  rw [e2]
  simp [flatT]
theorem lay_tag {l : List Itm} {k : Nat} {x : Itm} (ht : Tagged l) (h : l[k]? = some x) : tagB (layL l) k = x.1 := by
  obtain ⟨r, hr⟩ := lay_at ht h
  have h4 := ht x (List.mem_of_getElem? h)
  unfold tagB
  rw [hr]
  unfold recL
  rw [List.append_assoc, List.take_append_of_le_length (by omega), List.take_of_length_le (by omega)]
theorem lay_num {l : List Itm} {k d : Nat} {x : Itm} {w : List Nat} (ht : Tagged l) (h : l[k]? = some x) (hd : d + 4 ≤ 16) (hw : ((recL x.1 (12 + 16 * l.length + (flatT (l.take k)).length) x.2.length).drop d).take 4 = w) :
    num (layL l) ((12 + 16 * k + d : Nat) : Int) 4 = some (be w) := by
  obtain ⟨r, hr⟩ := lay_at ht h
  have hk := (List.getElem?_eq_some_iff.1 h).1
  have h4 := ht x (List.mem_of_getElem? h)
  rw [num_drop (by rw [layL_len ht]; omega), ← List.drop_drop, hr, List.drop_append_of_le_length (by rw [recL_len h4]; omega), List.take_append_of_le_length (by rw [List.length_drop, recL_len h4]; omega), hw]
theorem lay_cnt {l : List Itm} (hn : l.length ≤ 64) : cnt (layL l) = l.length := by
  unfold cnt
  rw [show (4 : Int) = ((4 : Nat) : Int) from rfl, num_drop (by unfold layL; rw [List.length_append, headL_len]; omega)]
  have : ((layL l).drop 4).take 2 = [0, l.length] := rfl
  rw [this, Option.getD_some]
  simp [be]
theorem nodup_at' {l : List (List Nat)} (h : l.Nodup) {j j' : Nat} {k : List Nat} (h1 : l[j]? = some k) (h2 : l[j']? = some k) : j = j' := by
  obtain ⟨a1, b1⟩ := List.getElem?_eq_some_iff.1 h1
  obtain ⟨a2, b2⟩ := List.getElem?_eq_some_iff.1 h2
  rcases Nat.lt_trichotomy j j' with hl | hl | hl
  · exact absurd (b1.trans b2.symm) (List.pairwise_iff_getElem.1 h j j' a1 a2 hl)
  · exact hl
  · exact absurd (b2.trans b1.symm) (List.pairwise_iff_getElem.1 h j' j a2 a1 hl)
theorem recsL_lt : ∀ {l : List Itm} {a : Nat}, (∀ x ∈ l, ∀ b ∈ x.1, b < 256) → ∀ b ∈ recsL a l, b < 256
  | [], _, _, b, h => by cases h
  | x :: l, a, ht, b, h => by
    rcases List.mem_append.1 (show b ∈ recL x.1 a x.2.length ++ recsL (a + x.2.length) l from h) with h | h
    · unfold recL at h
      rcases List.mem_append.1 h with h | h
      · exact ht x (List.mem_cons_self ..) b h
      · rcases List.mem_append.1 h with h | h
        · simp at h; omega
        · rcases List.mem_append.1 h with h | h <;> exact bigB_lt _ _ b h
    · exact recsL_lt (fun y hy => ht y (List.mem_cons_of_mem _ hy)) b h
theorem lay_lt {l : List Itm} (hn : l.length ≤ 64) (ht : ∀ x ∈ l, ∀ b ∈ x.1, b < 256) (hb : ∀ x ∈ l, ∀ b ∈ x.2, b < 256) : ∀ b ∈ layL l, b < 256 := by
  intro b h
  unfold layL at h
  rcases List.mem_append.1 h with h | h
  · simp [headL] at h
    rcases h with h | h | h | h <;> omega
  · rcases List.mem_append.1 h with h | h
    · exact recsL_lt ht b h
    · unfold flatT at h
      obtain ⟨t, h1, h2⟩ := List.mem_flatten.1 h
      obtain ⟨x, hx, rfl⟩ := List.mem_map.1 h1
      exact hb x hx b h2
end Go.Vabs.Sm

namespace Go.Vabs.Sn
set_option linter.unusedVariables false
set_option linter.unusedSimpArgs false
set_option maxRecDepth 10000
def Few_c : AFunc := AFunc.mk 13 (.seq (.reg [AOper.mk (some (.i (.o .h))) (.mv (.c (.slice none 0 0 0 true))) none]) (.seq (.reg [AOper.mk (some (.o (.i .h))) (.bslice 1 0 [.int .u8 (.ofNat 0)] []) none, AOper.mk (some (.i (.o (.o .h)))) (.len .slice (.t .h)) none, AOper.mk (some (.i (.i (.o .h)))) (.minmax false (.t (.i (.o (.o .h)))) [.t (.o .h)]) none, AOper.mk (some (.o (.o (.i .h)))) (.slice (.slice 1) (.t .h) none (some (.t (.i (.i (.o .h))))) none) none, AOper.mk (some (.i (.o (.i .h)))) (.append 1 1 (.t (.o (.i .h))) (.t (.o (.o (.i .h))))) none, AOper.mk (some (.i (.o .h))) (.mv (.t (.i (.o (.i .h))))) none]) .ret)) [.tmp (.i (.o .h))]
attribute [local simp] wp_skip wp_ret wp_exit wp_reg wp_seq wp_cond wp_block thenQ_normal thenQ_ret thenQ_exit blockQ_normal blockQ_ret blockQ_exit wpCond_true wpCond_false wpOps_nil wpVal_some wpGuard_true wpGuard_false wpOps_guard wpOps_cons
  put_at put_no ev_c ev_slot posEq_h posEq_o posEq_i posEq_ho posEq_hi posEq_oh posEq_ih posEq_oi posEq_io sel_true sel_false
  okv_some step_mv step_call step_pick pickV_bool step_bin bin_add bin_sub bin_mul bin_eql bin_neq bin_lss bin_leq bin_gtr bin_geq bin_eqb bin_neb bin_eqs bin_nes step_un un_not un_neg step_len len_slice len_str len_const step_extract extractV nth step_convInt conv_int step_convStr step_slice step_idxAddr natOf_nat step_load step_index step_field step_fieldAddr step_build step_minmax
  step_alloc step_bslice bsliceV_some newV_some step_store step_append boolIs_b boolIs_t finQ_ret finQ_normal ressE_nil ressE_cons resE_tmp consO_some initE_nil initE_cons pos_0 pos_1 pos_2 pos_3 pos_4 pos_5 pos_6 pos_7 pos_8 plain_bool plain_int plain_str plain_ptr plain_slice plain_map plain_agg plain_func plain_nilFunc V.undef oneOf_one oneOf_two ble_self
open Go.Vabs.Pk Go.Vabs.Ph Go.Vabs.Sa Go.Vabs.Sb Go.Vabs.Sc Go.Vabs.Sd Go.Vabs.Se Go.Vabs.Sg Go.Vabs.Sh Go.Vabs.Sm Go.Vabs.L2
attribute [local simp] step_nilchk nilchk_ptr cells_int cells_bool cells_str cells_slice cells_ptr cells_agg fieldAddrV natOf_zero fill repN splice over newV
  wp_dreg wpDs_nil wpDs_cons wantedE_none wantedE_some wpDGuard_true wpDGuard_lim wpDGuard_false wpDLim_true wpDVal_free wpDVal_lim back_limited next_limited limF_dir foot_load foot_convStr okAll_nil okAll_cons pastsOf nthP ahead few_next load_limited convStr_limited blt_dec okPair_dd okPair_dc okPair_cd okPair_cc anyIn_nil anyIn_same anyIn_cons meets_nil meets_nil'
theorem slice_nil0 {e : Nat} {f : Bool} : sliceOp (.slice 1) (.slice none e 0 0 f) none (some (.int .i64 ((0 : Nat) : Int))) none = some (.slice none 1 0 0 f) := by
  show sel (Nat.beq 1 e || true) _ none = _
  rw [Bool.or_true]
  cases f <;> rfl
theorem Few_run {call : CallT} {lf n : Nat} {os : List (Option AObj)} {v : V} {bs : List Nat} (h : bytesAt (few os) v = some bs) (hl : bs.length ≤ 140737488354816) (hn : n < 9223372036854775808) : enterF call lf [v, .int .i64 (n : Int)] (few os) Few_c = some (cloneR os (bs.take n)) := by
  obtain ⟨m, hm⟩ : ∃ m, m = min bs.length n := ⟨_, rfl⟩
  have hmin : mmAll false (.int .i64 (bs.length : Int)) [.int .i64 (n : Int)] = some (.int .i64 (m : Int)) := by
    rcases Nat.lt_or_ge bs.length n with h8 | h8
    · rw [hm, Nat.min_eq_left (by omega)]
      simp (disch := omega) [mmAll, mm2, ltI_eq, dltn_f, sel_true, sel_false]
    · rw [hm, Nat.min_eq_right h8]
      by_cases e : n < bs.length
      · simp (disch := omega) [mmAll, mm2, ltI_eq, dltn_t, sel_true, sel_false]
      · have : bs.length = n := by omega
        simp (disch := omega) [this, mmAll, mm2, ltI_eq, dltn_f, sel_true, sel_false]
  have htk : bs.take n = bs.take m := by
    rcases Nat.lt_or_ge bs.length n with h8 | h8
    · rw [hm, Nat.min_eq_left (by omega), List.take_of_length_le (by omega), List.take_length]
    · rw [hm, Nat.min_eq_right h8]
  have hbl := bytesAt_lt h
  obtain ⟨X, hX⟩ : ∃ X, X = os ++ [some (AObj.cells true [])] := ⟨_, rfl⟩
  have hXb : bytesAt (few X) v = some bs := bytesAt_grow h fun i hi => by rw [hX]; exact join_app hi
  have al : (few os).alloc (.cells true []) = some (os.length, few X) := by rw [hX]; exact few_alloc os _
  have hlen : lenV (few X) .slice v = some (.int .i64 (bs.length : Int)) := len_bytes (st' := few X) hXb
  have htl : (bs.take m).length = m := by rw [List.length_take]; omega
  obtain ⟨w, hsl, hfw⟩ : ∃ w, sliceOp (.slice 1) v none (some (.int .i64 (m : Int))) none = some w ∧ bytesAt (few X) w = some (bs.take m) := by
    by_cases hne : bs = []
    · subst hne
      have hm0 : m = 0 := by rw [hm]; simp
      subst hm0
      obtain ⟨h1, h2⟩ := first_bytes hXb
      have h3 := hXb
      unfold bytesAt at hXb
      split at hXb
      · rename_i e f
        exact ⟨_, slice_nil0, rfl⟩
      · rename_i i o n c f
        cases h1
        by_cases hc : c = 0
        · subst hc
          cases f
          · refine ⟨_, slice_hiI (by omega) (by omega), ?_⟩
            rw [shiftA_some]
            exact h3
          · exact ⟨_, rfl, h3⟩
        · refine ⟨_, slice_hiF (by omega) (by omega) (by omega), ?_⟩
          rw [shiftA_some]
          exact h3
      · cases hXb
    · obtain ⟨i, o, c, f, own, cs, rfl, hc, hg, hle, hcs⟩ := bytesAt_place hXb hne
      have hpos : 0 < bs.length := by cases bs with | nil => exact absurd rfl hne | cons _ _ => simp
      refine ⟨_, slice_hiF (by omega) (by omega) (by omega), ?_⟩
      rw [Int.toNat_natCast, shiftA_some, Nat.add_zero]
      refine bytesAt_few (own := own) (cs := cs) (by rw [← few_get]; exact hg) (by omega) (by omega) ?_ (fun b hb => hbl b (List.mem_of_mem_take hb))
      rw [← bytesV_take, ← hcs, List.take_take, Nat.min_eq_left (by omega)]
  obtain ⟨f1, f2⟩ := first_bytes hfw
  have happ := append_clone (os := os) (new := bs.take m) (by omega)
  rw [← hX] at happ
  rw [htl] at f1 f2 happ
  rw [htk]
  have hpl := cloneR_plain (os := os) (new := bs.take m)
  obtain ⟨cv, cs, hcr⟩ : ∃ cv cs, cloneR os (bs.take m) = (cv, cs) := ⟨_, _, rfl⟩
  rw [hcr] at happ hpl ⊢
  refine enter_eq ?_
  simp (disch := omega) [al, hlen, hmin, hsl, f1, firstNo, f2, happ, hpl]
def FewF (call : CallT) (g : Nat) : Prop := ∀ os v bs (n : Nat), bytesAt (few os) v = some bs → bs.length ≤ 140737488354816 → n < 9223372036854775808 → call g [v, .int .i64 (n : Int)] (few os) = some (cloneR os (bs.take n))
theorem FewF.code {base : CallT} {g lf : Nat} : FewF (Vabs.withF base g lf Few_c) g := fun os v bs n h1 h2 h3 => by rw [withF_same]; exact Few_run h1 h2 h3
theorem AObj.goodLe {n m : Nat} (hnm : n ≤ m) {o : AObj} (h : o.good n = true) : o.good m = true := by
  cases o with
  | cells own cs => exact goods_le hnm h
  | map own es c =>
    show es.all (entGood m) = true
    have h : es.all (entGood n) = true := h
    rw [List.all_eq_true] at h ⊢
    intro e he
    have := h e he
    simp only [entGood, Bool.and_eq_true] at this ⊢
    exact ⟨V.good_le hnm this.1, V.good_le hnm this.2⟩
theorem sight_keep {os os' : List (Option AObj)} (he : ∀ i, i < os.length → (os'[i]?).join = (os[i]?).join) (hl : os.length ≤ os'.length) : ∀ i o, (few os).look i = some o → (few os').look i = some o := by
  intro i o ho
  obtain ⟨h1, o', h2, h3, rfl⟩ := look_some ho
  have h1 : i < os.length := h1
  refine look_of (by rw [few_next]; omega) ?_ (AObj.goodLe (by rw [few_next, few_next]; exact hl) h3)
  rw [few_get, he i h1, ← few_get]
  exact h2
def slT (f : Bool) (q n : Nat) : V := if n = 0 then .slice none 0 0 0 true else .slice (some (q, 0)) 1 n n f
structure RowsB (os : List (Option AObj)) (r : Nat) (ts : List (List Nat)) : Prop where
  ex : ts ≠ [] → ∃ own vs, (os[r]?).join = some (.cells own vs) ∧ vs.length = ts.length ∧ ∀ (j : Nat) (v : V) (b : List Nat), vs[j]? = some v → ts[j]? = some b → v.good os.length = true ∧ lookB (few os).look v = some b
theorem RowsB.keep {os os' : List (Option AObj)} {r : Nat} {ts : List (List Nat)} (h : RowsB os r ts) (he : ∀ i, i < os.length → (os'[i]?).join = (os[i]?).join) (hl : os.length ≤ os'.length) : RowsB os' r ts :=
  ⟨fun hne => by
    obtain ⟨own, vs, h1, h2, h3⟩ := h.ex hne
    exact ⟨own, vs, by rw [he r (join_lt h1)]; exact h1, h2, fun j v b hv hb => ⟨V.good_le hl (h3 j v b hv hb).1, lookB_mono (sight_keep he hl) (h3 j v b hv hb).2⟩⟩⟩
theorem lookBs_of {l : Sight} : ∀ {vs : List V} {bss : List (List Nat)}, vs.length = bss.length → (∀ (j : Nat) (v : V) (b : List Nat), vs[j]? = some v → bss[j]? = some b → lookB l v = some b) → lookBs l vs = some bss
  | [], [], _, _ => rfl
  | [], _ :: _, h, _ => by simp at h
  | _ :: _, [], h, _ => by simp at h
  | v :: vs, b :: bss, h, hj => by
    show (match lookB l v, lookBs l vs with | some b, some bs => some (b :: bs) | _, _ => none) = _
    rw [hj 0 v b rfl rfl, lookBs_of (by simpa using h) fun j v b hv hb => hj (j + 1) v b (by simpa using hv) (by simpa using hb)]
theorem RowsB.at_ {os : List (Option AObj)} {r : Nat} {ts : List (List Nat)} (h : RowsB os r ts) {k : Nat} {b : List Nat} (hb : ts[k]? = some b) : ∃ w, loadV (few os) false 1 (.ptr (some (r, k))) = some w ∧ w.good os.length = true ∧ lookB (few os).look w = some b ∧ r < os.length := by
  have hk := (List.getElem?_eq_some_iff.1 hb).1
  obtain ⟨own, vs, h1, h2, h3⟩ := h.ex (fun e => by rw [e] at hk; simp at hk)
  refine ⟨vs[k], ?_, (h3 k _ b (List.getElem?_eq_getElem (by omega)) hb).1, (h3 k _ b (List.getElem?_eq_getElem (by omega)) hb).2, join_lt h1⟩
  rw [load_few h1, List.getElem?_eq_getElem]
theorem rows_own {os : List (Option AObj)} {q : Nat} {vs : List V} {ts : List (List Nat)} {own : Bool} (h : (os[q]?).join = some (.cells own vs)) (h2 : vs.length = ts.length) (h3 : ∀ (j : Nat) (v : V) (b : List Nat), vs[j]? = some v → ts[j]? = some b → v.good os.length = true ∧ lookB (few os).look v = some b) : RowsB os q ts := ⟨fun _ => ⟨own, vs, h, h2, h3⟩⟩
theorem lookB_own {os : List (Option AObj)} {p : Nat} {bs : List Nat} {f : Bool} (h : (os[p]?).join = some (newBytes bs)) (hb : ∀ b ∈ bs, b < 256) : (V.slice (some (p, 0)) 1 bs.length bs.length f).good os.length = true ∧ lookB (few os).look (.slice (some (p, 0)) 1 bs.length bs.length f) = some bs := by
  have hp := join_lt h
  refine ⟨by simp [V.good]; exact hp, lookB_of (own := true) (cs := bytesV bs) (by rw [few_next]; exact hp) (by rw [few_get]; exact h) (flats_good (List.all_eq_true.2 bytesV_flat)) (Nat.le_refl _) (by rw [bytesV_len]; omega) ?_ hb⟩
  rw [List.drop_zero, List.take_of_length_le (by rw [bytesV_len]; exact Nat.le_refl _)]
def layS (tags ts : List (List Nat)) : Option (List Nat) := if tags.length = ts.length ∧ tags.length ≤ 64 ∧ (∀ t ∈ tags, t.length = 4) ∧ tags.Nodup then some (layL (tags.zip ts)) else none
theorem layS_no {tags ts : List (List Nat)} (h : ¬ (tags.length = ts.length ∧ tags.length ≤ 64 ∧ (∀ t ∈ tags, t.length = 4) ∧ tags.Nodup)) : layS tags ts = none := if_neg h
theorem zip_take {α β : Type} {a : List α} {b : List β} {k : Nat} : (a.zip b).take k = (a.take k).zip (b.take k) := by simp [List.zip, List.take_zipWith]
theorem zip_map2 {a b : List (List Nat)} (h : a.length = b.length) : (a.zip b).map (·.2) = b := by rw [List.map_snd_zip (by omega)]
end Go.Vabs.Sn
