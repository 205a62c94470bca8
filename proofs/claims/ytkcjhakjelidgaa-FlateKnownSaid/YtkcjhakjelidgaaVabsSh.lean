/-
  Several slices of bytes joined (slices.Concat).
-/
import Derived.Test.YtkcjhakjelidgaaVabsSc
import Derived.Test.YtkcjhakjelidgaaVabsPk
namespace Go.Vabs.Sh
set_option linter.unusedVariables false
set_option linter.unusedSimpArgs false
set_option maxRecDepth 10000
def Concat_c (n_Grow : Nat) : AFunc := AFunc.mk 36 (.seq (.reg [AOper.mk (some (.i .h)) (.mv (.c (.slice none 0 0 0 true))) none]) (.seq (.reg [AOper.mk (some (.o (.o .h))) (.mv (.c (.int .i64 (.ofNat 0)))) none]) (.seq (.seq (.reg [AOper.mk (some (.o (.i (.o .h)))) (.mv (.t .h)) none, AOper.mk (some (.i (.i (.o .h)))) (.len .slice (.t (.o (.i (.o .h))))) none, AOper.mk (some (.o (.o (.i .h)))) (.mv (.c (.int .i64 (.ofNat 0)))) none]) (.block 0 (.loop (.seq (.reg [AOper.mk (some (.i (.o (.i .h)))) (.bin .lss (.val .int) (.t (.o (.o (.i .h)))) (.t (.i (.i (.o .h))))) none]) (.seq (.cond (.t (.i (.o (.i .h)))) .skip (.exit 0)) (.seq (.block 1 (.seq (.reg [AOper.mk (some (.o (.i (.i .h)))) (.idxAddr (.slice 1) (.t (.o (.i (.o .h)))) (.t (.o (.o (.i .h))))) none, AOper.mk (some (.i (.i (.i .h)))) (.load false 1 (.t (.o (.i (.i .h))))) none, AOper.mk (some (.o (.i .h))) (.mv (.t (.i (.i (.i .h))))) none]) (.seq (.reg [AOper.mk (some (.o (.i (.o (.o .h))))) (.len .slice (.t (.o (.i .h)))) none, AOper.mk (some (.i (.i (.o (.o .h))))) (.bin .add (.val .int) (.t (.o (.o .h))) (.t (.o (.i (.o (.o .h)))))) none, AOper.mk (some (.o (.o .h))) (.mv (.t (.i (.i (.o (.o .h)))))) none]) (.seq (.reg [AOper.mk (some (.i (.o (.i (.o .h))))) (.bin .lss (.val .int) (.t (.o (.o .h))) (.c (.int .i64 (.ofNat 0)))) none]) (.cond (.t (.i (.o (.i (.o .h))))) (.reg [AOper.mk (some (.o (.i (.i (.o .h))))) .fail none, AOper.mk none .fail none]) .skip))))) (.reg [AOper.mk (some (.i (.i (.i (.o .h))))) (.bin .add (.val .int) (.t (.o (.o (.i .h)))) (.c (.int .i64 (.ofNat 1)))) none, AOper.mk (some (.o (.o (.i .h)))) (.mv (.t (.i (.i (.i (.o .h)))))) none]))))))) (.seq (.reg [AOper.mk (some (.i (.o (.o (.i .h))))) (.call n_Grow [.c (.slice none 0 0 0 true), .t (.o (.o .h))]) none, AOper.mk (some (.i (.i .h))) (.mv (.t (.i (.o (.o (.i .h)))))) none]) (.seq (.seq (.reg [AOper.mk (some (.o (.i (.o (.i .h))))) (.mv (.t .h)) none, AOper.mk (some (.i (.i (.o (.i .h))))) (.len .slice (.t (.o (.i (.o (.i .h)))))) none, AOper.mk (some (.o (.o (.i (.i .h))))) (.mv (.c (.int .i64 (.ofNat 0)))) none]) (.block 2 (.loop (.seq (.reg [AOper.mk (some (.i (.o (.i (.i .h))))) (.bin .lss (.val .int) (.t (.o (.o (.i (.i .h))))) (.t (.i (.i (.o (.i .h)))))) none]) (.seq (.cond (.t (.i (.o (.i (.i .h))))) .skip (.exit 2)) (.seq (.block 3 (.seq (.reg [AOper.mk (some (.o (.i (.i (.i .h))))) (.idxAddr (.slice 1) (.t (.o (.i (.o (.i .h))))) (.t (.o (.o (.i (.i .h)))))) none, AOper.mk (some (.i (.i (.i (.i .h))))) (.load false 1 (.t (.o (.i (.i (.i .h)))))) none, AOper.mk (some (.i (.o (.o .h)))) (.mv (.t (.i (.i (.i (.i .h)))))) none]) (.reg [AOper.mk (some (.o (.i (.o (.o (.o .h)))))) (.append 1 1 (.t (.i (.i .h))) (.t (.i (.o (.o .h))))) none, AOper.mk (some (.i (.i .h))) (.mv (.t (.o (.i (.o (.o (.o .h))))))) none]))) (.reg [AOper.mk (some (.i (.i (.o (.o (.o .h)))))) (.bin .add (.val .int) (.t (.o (.o (.i (.i .h))))) (.c (.int .i64 (.ofNat 1)))) none, AOper.mk (some (.o (.o (.i (.i .h))))) (.mv (.t (.i (.i (.o (.o (.o .h))))))) none]))))))) (.seq (.reg [AOper.mk (some (.i .h)) (.mv (.t (.i (.i .h)))) none]) .ret)))))) [.tmp (.i .h)]
def Grow_c : AFunc := AFunc.mk 27 (.seq (.reg [AOper.mk (some (.i (.o .h))) (.mv (.c (.slice none 0 0 0 true))) none]) (.seq (.seq (.reg [AOper.mk (some (.i (.i .h))) (.bin .lss (.val .int) (.t (.o .h)) (.c (.int .i64 (.ofNat 0)))) none]) (.cond (.t (.i (.i .h))) (.reg [AOper.mk (some (.o (.o (.o .h)))) .fail none, AOper.mk none .fail none]) .skip)) (.seq (.seq (.reg [AOper.mk (some (.i (.i (.o .h)))) (.capOf (.t .h)) none, AOper.mk (some (.i (.o (.i .h)))) (.len .slice (.t .h)) none, AOper.mk (some (.o (.i (.i .h)))) (.bin .sub (.val .int) (.t (.i (.i (.o .h)))) (.t (.i (.o (.i .h))))) none, AOper.mk (some (.i (.i (.i .h)))) (.bin .sub (.val .int) (.t (.o .h)) (.t (.o (.i (.i .h))))) none, AOper.mk (some (.o .h)) (.mv (.t (.i (.i (.i .h))))) none]) (.seq (.reg [AOper.mk (some (.i (.o (.o (.o .h))))) (.bin .gtr (.val .int) (.t (.o .h)) (.c (.int .i64 (.ofNat 0)))) none]) (.cond (.t (.i (.o (.o (.o .h))))) (.reg [AOper.mk (some (.o (.o (.i (.o .h))))) (.capOf (.t .h)) none, AOper.mk (some (.i (.o (.i (.o .h))))) (.slice (.slice 1) (.t .h) none (some (.t (.o (.o (.i (.o .h)))))) none) none, AOper.mk (some (.i (.i (.i (.o .h))))) (.appendZ 1 1 [.int .u8 (.ofNat 0)] (.t (.i (.o (.i (.o .h))))) (.t (.o .h))) none, AOper.mk (some (.i (.o (.o (.i .h))))) (.len .slice (.t .h)) none, AOper.mk (some (.o (.i (.o (.i .h))))) (.slice (.slice 1) (.t (.i (.i (.i (.o .h))))) none (some (.t (.i (.o (.o (.i .h)))))) none) none, AOper.mk (some .h) (.mv (.t (.o (.i (.o (.i .h)))))) none]) .skip))) (.seq (.reg [AOper.mk (some (.i (.o .h))) (.mv (.t .h)) none]) .ret)))) [.tmp (.i (.o .h))]
attribute [local simp] wp_skip wp_ret wp_exit wp_reg wp_seq wp_cond wp_block thenQ_normal thenQ_ret thenQ_exit blockQ_normal blockQ_ret blockQ_exit wpCond_true wpCond_false wpOps_nil wpVal_some wpGuard_true wpGuard_false wpOps_guard wpOps_cons
  put_at put_no ev_c ev_slot posEq_h posEq_o posEq_i posEq_ho posEq_hi posEq_oh posEq_ih posEq_oi posEq_io sel_true sel_false
  okv_some step_mv step_call step_pick pickV_bool step_bin bin_add bin_sub bin_mul bin_eql bin_neq bin_lss bin_leq bin_gtr bin_geq bin_eqb bin_neb bin_eqs bin_nes step_un un_not un_neg step_len len_slice len_str len_const step_extract extractV nth step_convInt conv_int step_convStr step_slice step_idxAddr natOf_nat step_load step_index step_field step_fieldAddr step_build step_minmax
  step_alloc step_bslice bsliceV_some newV_some step_store step_append boolIs_b boolIs_t finQ_ret finQ_normal ressE_nil ressE_cons resE_tmp consO_some initE_nil initE_cons pos_0 pos_1 pos_2 pos_3 pos_4 pos_5 pos_6 pos_7 pos_8 plain_bool plain_int plain_str plain_ptr plain_slice plain_map plain_agg plain_func plain_nilFunc V.undef oneOf_one oneOf_two ble_self
open Go.Vabs.Pk Go.Vabs.Ph Go.Vabs.Sa Go.Vabs.Sb Go.Vabs.Sc Go.Vabs.Sg
attribute [local simp] fieldAddrV natOf_zero step_appendZ
/-- Bytes of several slices. -/
noncomputable def lookBs (l : Sight) : List V → Option (List (List Nat))
  | [] => some []
  | v :: vs => match lookB l v, lookBs l vs with | some b, some bs => some (b :: bs) | _, _ => none
noncomputable def lookSL (l : Sight) : V → Option (List (List Nat))
  | .slice (some (i, o)) 1 n c _ => if n ≤ c then match l i with | some (.cells _ cs) => (match cut o n cs with | some vs => if vs.length = n then lookBs l vs else none | none => none) | _ => none else none
  | .slice none _ 0 0 _ => some []
  | _ => none
theorem lookBs_mono {l l' : Sight} (h : ∀ i o, l i = some o → l' i = some o) : ∀ {vs : List V} {bss : List (List Nat)}, lookBs l vs = some bss → lookBs l' vs = some bss
  | [], bss, hb => hb
  | v :: vs, bss, hb => by
    unfold lookBs at hb ⊢
    split at hb
    · rename_i b bs h1 h2
      rw [lookB_mono h h1, lookBs_mono h h2]
      exact hb
    · cases hb
theorem lookSL_mono {l l' : Sight} (h : ∀ i o, l i = some o → l' i = some o) {v : V} {bss : List (List Nat)} (hb : lookSL l v = some bss) : lookSL l' v = some bss := by
  unfold lookSL at hb ⊢
  split at hb
  · split at hb
    · rename_i hnc
      rw [if_pos hnc]
      split at hb
      · rename_i own cs hl
        rw [h _ _ hl]
        dsimp only
        split at hb
        · split at hb
          · rename_i hvl
            rw [if_pos hvl]
            exact lookBs_mono h hb
          · cases hb
        · cases hb
      · cases hb
    · cases hb
  · exact hb
  · cases hb
/-- Slices of bytes in memory. -/
theorem lookBs_at {st : St} : ∀ {vs : List V} {bss : List (List Nat)}, lookBs st.look vs = some bss → vs.length = bss.length ∧ ∀ (j : Nat) (v : V) (b : List Nat), vs[j]? = some v → bss[j]? = some b → bytesAt st v = some b
  | [], bss, hb => by cases hb; exact ⟨rfl, fun j v b h => by cases h⟩
  | v :: vs, bss, hb => by
    unfold lookBs at hb
    split at hb
    · rename_i b bs h1 h2
      cases hb
      obtain ⟨hl, hr⟩ := lookBs_at h2
      refine ⟨by simp [hl], fun j v' b' hv hb' => ?_⟩
      cases j with
      | zero =>
        simp at hv hb'
        subst hv hb'
        exact lookB_at h1
      | succ j => exact hr j v' b' (by simpa using hv) (by simpa using hb')
    · cases hb
theorem takeN_cut : ∀ {n : Nat} {l r : List V}, takeN n l = some r → l.take n = r ∧ (n = 0 ∨ n ≤ l.length)
  | 0, l, r, h => by cases h; exact ⟨rfl, .inl rfl⟩
  | n + 1, [], r, h => by cases h
  | n + 1, x :: l, r, h => by
    have h : (match takeN n l with | some r => some (x :: r) | none => none) = some r := h
    split at h
    · rename_i r' hr
      cases h
      obtain ⟨h1, h2⟩ := takeN_cut hr
      exact ⟨by rw [List.take_succ_cons, h1], .inr (by simp; omega)⟩
    · cases h
theorem cut_take : ∀ {o n : Nat} {l r : List V}, cut o n l = some r → 0 < n → (l.drop o).take n = r ∧ o + n ≤ l.length
  | 0, n, l, r, h, hn => by
    have h : takeN n l = some r := by cases n <;> exact h
    obtain ⟨h1, h2⟩ := takeN_cut h
    exact ⟨h1, by omega⟩
  | o + 1, 0, l, r, h, hn => by omega
  | o + 1, n + 1, [], r, h, hn => by cases h
  | o + 1, n + 1, x :: l, r, h, hn => by
    have h : cut o (n + 1) l = some r := h
    obtain ⟨h1, h2⟩ := cut_take h (by omega)
    exact ⟨h1, by simp; omega⟩
theorem first_bytes {st : St} {v : V} {bs : List Nat} (h : bytesAt st v = some bs) : lenOf v = some bs.length ∧ firstN st 1 bs.length v = some (bytesV bs) := by
  by_cases hne : bs = []
  · subst hne
    have hl := len_bytes (st' := st) h
    cases v with
    | slice a e n c f =>
      have hn : n = 0 := by
        have : (n : Int) = 0 := by
          have hl : some (V.int .i64 (n : Int)) = some (V.int .i64 ((0 : Nat) : Int)) := hl
          simpa using hl
        omega
      subst hn
      refine ⟨rfl, ?_⟩
      cases a with
      | none => rfl
      | some p =>
        obtain ⟨i, o⟩ := p
        unfold bytesAt at h
        split at h
        · rename_i h1; cases h1
        · rename_i i o n c f h1
          cases h1
          split at h
          · split at h
            · rename_i own cs hg
              show sel (Nat.beq 1 1 && Nat.ble 0 0) (st.loadN _ _ (0 * 1)) none = _
              unfold St.loadN
              rw [hg, Nat.zero_mul]
              have : ∀ (o : Nat) (cs : List V), cut o 0 cs = some [] := fun o cs => by cases o <;> rfl
              dsimp only
              rw [this]
              rfl
            · cases h
          · cases h
        · cases h
    | _ => cases hl
  · obtain ⟨i, o, c, f, own, cs, rfl, hnc, hg, hm, hcs⟩ := bytesAt_place h hne
    refine ⟨rfl, ?_⟩
    show sel (Nat.beq 1 1 && Nat.ble bs.length bs.length) (st.loadN i o (bs.length * 1)) none = _
    unfold St.loadN
    rw [hg]
    dsimp only
    rw [cut_of (by omega), Nat.mul_one, hcs, ble_t (Nat.le_refl _)]
    rfl
theorem drop_l' {l r : List Nat} {k : Nat} (h : l.length = k) : (l ++ r).drop k = r := by subst h; exact List.drop_left
def sumT (bss : List (List Nat)) (i : Nat) : Nat := (bss.take i).flatten.length
theorem append_room {os : List (Option AObj)} {p n m t : Nat} {cs new : List V} (hp : (os[p]?).join = some (.cells true cs)) (hm : new.length = m) (ht : n + m ≤ t) (hc : cs.length = t) (hs : t ≤ 70368744177664) :
    appendV (few os) 1 1 (.slice (some (p, 0)) 1 n t false) (some m) (some new) = some (.slice (some (p, 0)) 1 (n + m) t false, few (os.set p (some (.cells true (cs.take n ++ new ++ cs.drop (n + m)))))) := by
  cases m with
  | zero =>
    have : new = [] := List.length_eq_zero_iff.1 hm
    subst this
    have e : cs.take n ++ [] ++ cs.drop (n + 0) = cs := by rw [List.append_nil, Nat.add_zero, List.take_append_drop]
    rw [e]
    have e2 : os.set p (some (.cells true cs)) = os := by
      have hlt := join_lt hp
      refine List.ext_getElem? fun i => ?_
      by_cases hi : p = i
      · subst hi
        rw [List.getElem?_set_self hlt]
        rw [List.getElem?_eq_getElem hlt] at hp ⊢
        exact congrArg some (by simpa using hp.symm)
      · rw [List.getElem?_set_ne hi]
    rw [e2]
    rfl
  | succ m =>
    show valOf (appendOp (few os) 1 1 (.slice (some (p, 0)) 1 n t false) (m + 1) new) = _
    unfold appendOp
    dsimp only
    rw [ble_t (show (2 * (n + (m + 1)) + 1024) * 1 ≤ 281474976710656 by omega), show Nat.beq new.length ((m + 1) * 1) = true from by rw [hm, Nat.mul_one]; exact Nat.beq_refl _, few_get, hp]
    dsimp only [Bool.and_self, sel_true, Nat.beq_refl]
    rw [ble_t ht]
    dsimp only [sel_true]
    unfold St.storeN
    rw [few_get, hp]
    dsimp only
    rw [splice_of (by omega)]
    dsimp only
    rw [few_set hp, Nat.zero_add, Nat.mul_one, hm]
    rfl
noncomputable def capV : V → Option V
  | .slice _ _ _ c true => some (.int .i64 (.ofNat c))
  | _ => none
theorem step_capOf {call : CallT} {s : Env} {st : St} {x : Src} : stepE call (.capOf x) s st = okv (capV (s.ev x)) st := by
  refine step_of ?_
  show ex_capOf x s.ev st = _
  unfold ex_capOf capV
  generalize s.ev x = u
  cases u <;> try rfl
  rename_i a e n c f
  cases f <;> rfl
attribute [local simp] step_capOf
/-- Room for so many bytes. -/
theorem Grow_run {call : CallT} {lf : Nat} {os : List (Option AObj)} {t : Nat} (ht : t ≤ 70368744177664) :
    enterF call lf [.slice none 0 0 0 true, .int .i64 (t : Int)] (few os) Grow_c = some (if t = 0 then (.slice none 0 0 0 true, few os) else (.slice (some (os.length, 0)) 1 0 t false, few (os ++ [some (newBytes (List.replicate t 0))]))) := by
  have hsl : sliceOp (.slice 1) (.slice none 0 0 0 true) none (some (.int .i64 0)) none = some (.slice none 1 0 0 true) := rfl
  have hcap : capV (.slice none 0 0 0 true) = some (.int .i64 0) := rfl
  split
  · rename_i h0
    subst h0
    refine enter_eq ?_
    simp (disch := omega) [hcap, wrap_i]
  · rename_i h0
    obtain ⟨m, rfl⟩ : ∃ m, t = m + 1 := ⟨t - 1, by omega⟩
    obtain ⟨u, hu⟩ : ∃ u, u = m + 1 := ⟨_, rfl⟩
    rw [← hu]
    have hrep : repN u [V.int .u8 0] = bytesV (List.replicate u 0) := repN_zero u
    have hgr : appendV (few os) 1 1 (.slice none 1 0 0 true) (some u) (some (bytesV (List.replicate u 0))) = some (.slice (some (os.length, 0)) 1 u u false, few (os ++ [some (newBytes (List.replicate u 0))])) := by
      rw [hu]
      rw [grow_none, if_pos (by rw [bytesV_len]; simp; omega)]
      rfl
    have hsh : sliceOp (.slice 1) (.slice (some (os.length, 0)) 1 u u false) none (some (.int .i64 0)) none = some (.slice (some (os.length, 0)) 1 0 u false) := by
      rw [slice_hiF (by omega) (by omega) (by omega)]; rfl
    have hpos : 0 < u := by omega
    refine enter_eq ?_
    simp (disch := omega) [hcap, wrap_i, dlt_f, dlt_t, hpos, hsl, natOf_nat, hrep, hgr, hsh]

def GrowF (call : CallT) (g : Nat) : Prop := ∀ (os : List (Option AObj)) (t : Nat), t ≤ 70368744177664 → call g [.slice none 0 0 0 true, .int .i64 (t : Int)] (few os) = some (if t = 0 then (.slice none 0 0 0 true, few os) else (.slice (some (os.length, 0)) 1 0 t false, few (os ++ [some (newBytes (List.replicate t 0))])))
theorem GrowF.code {base : CallT} {g lf : Nat} : GrowF (Vabs.withF base g lf Grow_c) g := fun os t h => by rw [withF_same]; exact Grow_run h
theorem GrowF.withF {call : CallT} {n g lf : Nat} {fn : AFunc} (h : GrowF call n) (hne : n ≠ g) : GrowF (Vabs.withF call g lf fn) n := fun os t ht => by rw [withF_other hne]; exact h os t ht
theorem GrowF.other {call : CallT} {n g : Nat} {l : List V → St → Option (V × St)} (h : GrowF call n) (hne : n ≠ g) : GrowF (withL call g l) n := fun os t ht => by rw [withL_other hne]; exact h os t ht
/-- A slice of slices in memory. -/
structure SLat (os : List (Option AObj)) (v : V) (bss : List (List Nat)) : Prop where
  len : lenV (few os) .slice v = some (.int .i64 (bss.length : Int))
  at_ : ∀ k, k < bss.length → ∃ i o c f own cs w, v = .slice (some (i, o)) 1 bss.length c f ∧ (os[i]?).join = some (.cells own cs) ∧ cs[o + k]? = some w ∧ ∀ b, bss[k]? = some b → bytesAt (few os) w = some b
theorem lookSL_at {os : List (Option AObj)} {v : V} {bss : List (List Nat)} (h : lookSL (few os).look v = some bss) : SLat os v bss := by
  unfold lookSL at h
  split at h
  · rename_i i o n c f
    split at h
    · rename_i hnc
      split at h
      · rename_i own cs hl
        obtain ⟨_, o', h2, _, h4⟩ := look_some hl
        cases o' with
        | map _ _ _ => cases h4
        | cells own' cs' =>
          cases h4
          split at h
          · rename_i vs hvs
            split at h
            · rename_i hvl
              obtain ⟨l1, l2⟩ := lookBs_at h
              have hn : n = bss.length := by omega
              subst hn
              refine ⟨rfl, fun k hk => ?_⟩
              obtain ⟨e1, e2⟩ := cut_take hvs (by omega)
              obtain ⟨w, hw⟩ : ∃ w, vs[k]? = some w := ⟨_, List.getElem?_eq_getElem (by omega)⟩
              refine ⟨i, o, c, f, own', cs, w, rfl, by rw [← few_get]; exact h2, ?_, fun b hb => l2 k w b hw hb⟩
              rw [← e1, List.getElem?_take_of_lt hk, List.getElem?_drop] at hw
              exact hw
            · cases h
          · cases h
      · cases h
    · cases h
  · cases h
    exact ⟨rfl, fun k hk => by simp at hk⟩
  · cases h
theorem SLat.grow {os os' : List (Option AObj)} {v : V} {bss : List (List Nat)} (h : SLat os v bss) (he : ∀ i, i < os.length → (os'[i]?).join = (os[i]?).join) : SLat os' v bss := by
  refine ⟨?_, fun k hk => ?_⟩
  · have := h.len
    cases v <;> first | exact this | cases this
  · obtain ⟨i, o, c, f, own, cs, w, h1, h2, h3, h4⟩ := h.at_ k hk
    exact ⟨i, o, c, f, own, cs, w, h1, by rw [he i (join_lt h2)]; exact h2, h3, fun b hb => bytesAt_grow (h4 b hb) he⟩
theorem sum_take {bss : List (List Nat)} {k : Nat} {b : List Nat} (h : bss[k]? = some b) : (bss.take (k + 1)).flatten = (bss.take k).flatten ++ b := by
  rw [List.take_add_one, h]
  simp
theorem sum_le {bss : List (List Nat)} (k : Nat) : (bss.take k).flatten.length ≤ bss.flatten.length := by
  conv => rhs; rw [← List.take_append_drop k bss, List.flatten_append, List.length_append]
  omega
theorem Concat_run {call : CallT} {lf nG : Nat} (hG : GrowF call nG) {os : List (Option AObj)} {v : V} {bss : List (List Nat)} (h : SLat os v bss) (hlf : bss.length < lf) (hcn : bss.length ≤ 1099511627776) (hs : bss.flatten.length ≤ 70368744177664) :
    ∃ w l, enterF call lf [v] (few os) (Concat_c nG) = some (w, few (os ++ l)) ∧ ((bss.flatten = [] ∧ w = .slice none 0 0 0 true) ∨ (bss.flatten ≠ [] ∧ w = .slice (some (os.length, 0)) 1 bss.flatten.length bss.flatten.length false ∧ l = [some (newBytes bss.flatten)])) := by
  obtain ⟨fl, hfe⟩ : ∃ fl, bss.flatten = fl := ⟨_, rfl⟩
  rw [hfe] at hs ⊢
  have main := enter_wp (call := call) (lf := lf) (n := 36) (args := [v]) (st := few os) (K := fun w st => ∃ l, st = few (os ++ l) ∧ ((fl = [] ∧ w = .slice none 0 0 0 true) ∨ (fl ≠ [] ∧ w = .slice (some (os.length, 0)) 1 fl.length fl.length false ∧ l = [some (newBytes fl)]))) (c := (Concat_c nG).code) (rs := (Concat_c nG).results) ?_
  · obtain ⟨w, st', h1, l, rfl, h2⟩ := main
    exact ⟨w, l, h1, h2⟩
  · unfold Concat_c
    dsimp only
    have hbl := h.len
    obtain ⟨t, ht⟩ : ∃ t, t = fl.length := ⟨_, rfl⟩
    rw [← ht] at hs
    simp [hbl]
    refine wp_loop (fun k s st => ∃ i, i + k = bss.length ∧ st = few os ∧ s .h = v ∧ s (.o (.i (.o .h))) = v ∧ s (.i (.i (.o .h))) = .int .i64 (bss.length : Int) ∧ s (.o (.o (.i .h))) = .int .i64 (i : Int) ∧ s (.o (.o .h)) = .int .i64 (sumT bss i : Int)) bss.length ?_ hlf ?_
    · refine ⟨0, by omega, rfl, ?_, ?_, ?_, ?_, ?_⟩ <;> simp [sumT]
    · rintro k s st ⟨i, hi, rfl, s1, s2, s3, s4, s5⟩
      obtain ⟨u, hu⟩ : ∃ u, u = sumT bss i := ⟨_, rfl⟩
      rw [← hu] at s5
      have hut : u ≤ t := by rw [hu, ht, ← hfe]; exact sum_le (bss := bss) i
      cases k with
      | succ k =>
        have hlt : i < bss.length := by omega
        obtain ⟨b, hb⟩ : ∃ b, bss[i]? = some b := ⟨_, List.getElem?_eq_getElem hlt⟩
        obtain ⟨i0, o, c, f, own, cs, w, h1, h2, h3, h4⟩ := h.at_ i hlt
        have hw := h4 b hb
        have hwl := len_bytes (st' := few os) hw
        have ld : loadV (few os) false 1 (.ptr (some (i0, o + i))) = some w := by rw [load_few h2, h3]
        have hsum : sumT bss (i + 1) = u + b.length := by unfold sumT; rw [sum_take hb, List.length_append, hu]; rfl
        have hle : u + b.length ≤ t := by rw [← hsum, ht, ← hfe]; exact sum_le (bss := bss) (i + 1)
        rw [h1] at s2
        obtain ⟨n, hn⟩ : ∃ n, n = bss.length := ⟨_, rfl⟩
        rw [← hn] at s2 s3
        have hin : i < n := by omega
        simp (disch := omega) [s1, s2, s3, s4, s5, hin, dltn_t, dlt_f, natOf_int, idxAddr_slice, ld, hwl, wrap_i]
        refine ⟨k, by omega, i + 1, by omega, by rw [hn]; exact h1.symm, by omega, by omega, by rw [hsum]; omega⟩
      | zero =>
        have hin : i = bss.length := by omega
        subst hin
        have hut' : u = t := by rw [hu, ht, ← hfe]; unfold sumT; rw [List.take_length]
        rw [hut'] at s5
        have hg := hG os t (by omega)
        by_cases h0 : t = 0
        · rw [if_pos h0] at hg
          have hfl : fl = [] := List.length_eq_zero_iff.1 (by rw [← ht]; exact h0)
          simp (disch := omega) [s1, s2, s3, s4, s5, dltn_f, hg, hbl]
          refine wp_loop (fun k s st => ∃ i, i + k = bss.length ∧ st = few os ∧ s (.o (.i (.o (.i .h)))) = v ∧ s (.i (.i (.o (.i .h)))) = .int .i64 (bss.length : Int) ∧ s (.o (.o (.i (.i .h)))) = .int .i64 (i : Int) ∧ s (.i (.i .h)) = .slice none 0 0 0 true) bss.length ?_ hlf ?_
          · refine ⟨0, by omega, rfl, ?_, ?_, ?_, ?_⟩ <;> simp [s1]
          · rintro k s st ⟨i, hi, rfl, r1, r2, r3, r4⟩
            cases k with
            | zero =>
              have hin : i = bss.length := by omega
              subst hin
              simp (disch := omega) [r1, r2, r3, r4, dltn_f, hfl]
              exact ⟨[], by rw [List.append_nil]⟩
            | succ k =>
              have hlt : i < bss.length := by omega
              obtain ⟨b, hb⟩ : ∃ b, bss[i]? = some b := ⟨_, List.getElem?_eq_getElem hlt⟩
              have hb0 : b = [] := by
                have hm := List.mem_of_getElem? hb
                cases b with
                | nil => rfl
                | cons x b =>
                  have : x ∈ bss.flatten := List.mem_flatten.2 ⟨_, hm, List.mem_cons_self ..⟩
                  rw [hfe, hfl] at this; cases this
              subst hb0
              obtain ⟨i0, o, c, f, own, cs, w, h1, h2, h3, h4⟩ := h.at_ i hlt
              obtain ⟨hw1, hw2⟩ := first_bytes (h4 [] hb)
              have hw1 : lenOf w = some 0 := hw1
              have hw2 : firstN (few os) 1 0 w = some [] := hw2
              have ld : loadV (few os) false 1 (.ptr (some (i0, o + i))) = some w := by rw [load_few h2, h3]
              have hap : appendV (few os) 1 1 (.slice none 0 0 0 true) (some 0) (some []) = some (.slice none 0 0 0 true, few os) := rfl
              rw [h1] at r1
              obtain ⟨n, hn⟩ : ∃ n, n = bss.length := ⟨_, rfl⟩
              rw [← hn] at r1 r2
              have hin : i < n := by omega
              simp (disch := omega) [r1, r2, r3, r4, hin, dltn_t, natOf_int, idxAddr_slice, ld, hw1, firstNo, hw2, hap, wrap_i]
              exact ⟨k, by omega, i + 1, by omega, by rw [hn]; exact h1.symm, by omega, by omega⟩
        · rw [if_neg h0] at hg
          have hfl : fl ≠ [] := fun e => h0 (by rw [ht, e]; rfl)
          have hbl2 : ∀ x, lenV (few (os ++ x)) .slice v = some (.int .i64 (bss.length : Int)) := fun x => (h.grow (fun i hi => join_app hi)).len
          simp (disch := omega) [s1, s2, s3, s4, s5, dltn_f, hg, hbl2]
          refine wp_loop (fun k s st => ∃ i, i + k = bss.length ∧ st = few (os ++ [some (newBytes ((bss.take i).flatten ++ List.replicate (t - sumT bss i) 0))]) ∧ s (.o (.i (.o (.i .h)))) = v ∧ s (.i (.i (.o (.i .h)))) = .int .i64 (bss.length : Int) ∧ s (.o (.o (.i (.i .h)))) = .int .i64 (i : Int) ∧ s (.i (.i .h)) = .slice (some (os.length, 0)) 1 (sumT bss i) t false) bss.length ?_ hlf ?_
          · refine ⟨0, by omega, ?_, ?_, ?_, ?_, ?_⟩ <;> simp [s1, sumT]
          · rintro k s st ⟨i, hi, rfl, r1, r2, r3, r4⟩
            cases k with
            | zero =>
              have hin : i = bss.length := by omega
              subst hin
              have hsl : sumT bss bss.length = t := by unfold sumT; rw [List.take_length, ht, hfe]
              rw [hsl] at r4
              have hmem : few (os ++ [some (newBytes ((bss.take bss.length).flatten ++ List.replicate (t - sumT bss bss.length) 0))]) = few (os ++ [some (newBytes fl)]) := by
                rw [hsl, Nat.sub_self, List.take_length, List.replicate_zero, List.append_nil, hfe]
              rw [hmem]
              simp (disch := omega) [r1, r2, r3, r4, dltn_f, hfl]
              exact ht
            | succ k =>
              have hlt : i < bss.length := by omega
              obtain ⟨b, hb⟩ : ∃ b, bss[i]? = some b := ⟨_, List.getElem?_eq_getElem hlt⟩
              obtain ⟨X, hX⟩ : ∃ X, X = os ++ [some (newBytes ((bss.take i).flatten ++ List.replicate (t - sumT bss i) 0))] := ⟨_, rfl⟩
              have hgr : SLat X v bss := h.grow (fun i hi => by rw [hX]; exact join_app hi)
              obtain ⟨i0, o, c, f, own, cs, w, h1, h2, h3, h4⟩ := hgr.at_ i hlt
              obtain ⟨hw1, hw2⟩ := first_bytes (h4 b hb)
              have ld : loadV (few X) false 1 (.ptr (some (i0, o + i))) = some w := by rw [load_few h2, h3]
              obtain ⟨u, hu⟩ : ∃ u, u = sumT bss i := ⟨_, rfl⟩
              have hul : ((bss.take i).flatten).length = u := hu.symm
              have hsum : sumT bss (i + 1) = u + b.length := by unfold sumT; rw [sum_take hb, List.length_append, hul]
              have hle : u + b.length ≤ t := by rw [← hsum, ht, ← hfe]; exact sum_le (bss := bss) (i + 1)
              rw [← hu] at r4 hX
              have hXp : (X[os.length]?).join = some (.cells true (bytesV ((bss.take i).flatten ++ List.replicate (t - u) 0))) := by rw [hX]; simp [newBytes]
              have hroom := append_room (n := u) (m := b.length) (t := t) (new := bytesV b) hXp (bytesV_len ..) hle (by rw [bytesV_len, List.length_append, hul, List.length_replicate]; omega) (by omega)
              obtain ⟨X', hX'⟩ : ∃ X', X' = X.set os.length (some (.cells true ((bytesV ((bss.take i).flatten ++ List.replicate (t - u) 0)).take u ++ bytesV b ++ (bytesV ((bss.take i).flatten ++ List.replicate (t - u) 0)).drop (u + b.length)))) := ⟨_, rfl⟩
              rw [← hX'] at hroom
              have hnext : X' = os ++ [some (newBytes ((bss.take (i + 1)).flatten ++ List.replicate (t - sumT bss (i + 1)) 0))] := by
                rw [hX', hX, hsum, sum_take hb]
                have e1 : (bytesV ((bss.take i).flatten ++ List.replicate (t - u) 0)).take u = bytesV (bss.take i).flatten := by
                  rw [bytesV_take, List.take_append_of_le_length (by omega), List.take_of_length_le (by omega)]
                have e2 : (bytesV ((bss.take i).flatten ++ List.replicate (t - u) 0)).drop (u + b.length) = bytesV (List.replicate (t - (u + b.length)) 0) := by
                  rw [bytesV_drop, ← List.drop_drop, drop_l' hul, List.drop_replicate, show t - u - b.length = t - (u + b.length) from by omega]
                rw [e1, e2, List.set_append_right _ _ (Nat.le_refl _), Nat.sub_self]
                simp [newBytes, bytesV]
              rw [h1] at r1
              obtain ⟨n, hn⟩ : ∃ n, n = bss.length := ⟨_, rfl⟩
              rw [← hn] at r1 r2
              have hin : i < n := by omega
              rw [← hu, ← hX]
              simp (disch := omega) [r1, r2, r3, r4, hin, dltn_t, natOf_int, idxAddr_slice, ld, hw1, firstNo, hw2, hroom, wrap_i]
              exact ⟨k, by omega, i + 1, by omega, by rw [hnext], by rw [hn]; exact h1.symm, by omega, by omega, by rw [hsum]⟩
/- THE LAW OF CONCAT -/
noncomputable def concatA (fl : List Nat) : Ans := if fl = [] then ([], fun _ => .slice none 0 0 0 true) else ([newBytes fl], fun k => .slice (some (k, 0)) 1 fl.length fl.length false)
noncomputable def concatSpec : Nat → Sight → List V → Option Ans := fun _ l args =>
  match args with
  | [v] => match lookSL l v with | some bss => if bss.length ≤ 4096 ∧ bss.flatten.length ≤ 70368744177664 then some (concatA bss.flatten) else none | none => none
  | _ => none
theorem concatSpec_mono : MonoN concatSpec := by
  intro n l l' args a h ha
  unfold concatSpec at ha ⊢
  split at ha
  · split at ha
    · rename_i bss hbs
      rw [lookSL_mono h hbs]
      exact ha
    · cases ha
  · cases ha
theorem Concat_sound {P : Program} {call : CallT} (hmix : P.follows .mixedOrders = true) (hs : Sound P call) {g nG : Nat} (hG : GrowF call nG) (hc : compF P g = some (Concat_c nG)) : Sound P (withL call g (lawOf (sightRdN concatSpec))) := by
  refine hs.sightN hmix 5000 hc concatSpec_mono fun os args new f hg hx => ?_
  unfold concatSpec at hx
  split at hx
  · rename_i v
    split at hx
    · rename_i bss hbs
      split at hx
      · rename_i hl
        have hx : concatA bss.flatten = (new, f) := Option.some.inj hx
        have hnew : new = (concatA bss.flatten).1 := by rw [hx]
        have hff : f = (concatA bss.flatten).2 := by rw [hx]
        subst hnew hff
        obtain ⟨w, l, h1, h2⟩ := Concat_run (lf := 5000) hG (lookSL_at hbs) (by omega) (by omega) hl.2
        unfold concatA
        rcases h2 with ⟨h3, rfl⟩ | ⟨h3, rfl, rfl⟩
        · rw [if_pos h3]
          exact ⟨_, _, [], h1, Left.flat rfl⟩
        · rw [if_neg h3]
          exact ⟨_, _, [os.length], h1, Left.cells bytesV_flat (Nat.le_refl _) (Nat.le_refl _) (by rw [few_heap]; simp [newBytes])⟩
      · cases hx
    · cases hx
  · cases hx
def ConcatF (call : CallT) (g : Nat) : Prop := ∀ os v bss, v.good os.length = true → lookSL (few os).look v = some bss → bss.length ≤ 4096 → bss.flatten.length ≤ 70368744177664 → call g [v] (few os) = some ((concatA bss.flatten).2 os.length, few (os ++ (concatA bss.flatten).1.map some))
theorem concat_fact {call : CallT} {g : Nat} : ConcatF (withL call g (lawOf (sightRdN concatSpec))) g := by
  intro os v bss hg hb h1 h2
  rw [sightN_call (by simp [goods, hg, few_next])]
  unfold concatSpec
  dsimp only
  rw [hb]
  dsimp only
  rw [if_pos ⟨h1, h2⟩]
  exact lawOut_few
theorem ConcatF.other {call : CallT} {n g : Nat} {l : List V → St → Option (V × St)} (h : ConcatF call n) (hne : n ≠ g) : ConcatF (withL call g l) n := fun os v bs a b c d => by rw [withL_other hne]; exact h os v bs a b c d
theorem ConcatF.withF {call : CallT} {n g lf : Nat} {fn : AFunc} (h : ConcatF call n) (hne : n ≠ g) : ConcatF (Vabs.withF call g lf fn) n := fun os v bs a b c d => by rw [withF_other hne]; exact h os v bs a b c d

end Go.Vabs.Sh

namespace Go.Vabs.Si
set_option linter.unusedVariables false
set_option linter.unusedSimpArgs false
set_option maxRecDepth 10000
def block_c (n_Concat : Nat) : AFunc := AFunc.mk 25 (.seq (.reg [AOper.mk (some (.i (.o .h))) (.mv (.c (.slice none 0 0 0 true))) none]) (.seq (.reg [AOper.mk (some (.o (.o (.o .h)))) (.len .slice (.t .h)) none, AOper.mk (some (.o (.i .h))) (.mv (.t (.o (.o (.o .h))))) none]) (.seq (.reg [AOper.mk (some (.i (.i (.o .h)))) (.conv (.int .u8) (.t (.o (.i .h)))) none, AOper.mk (some (.i (.o (.i .h)))) (.bin .shr (.val .int) (.t (.o (.i .h))) (.c (.int .u64 (.ofNat 8)))) none, AOper.mk (some (.o (.i (.i .h)))) (.conv (.int .u8) (.t (.i (.o (.i .h))))) none, AOper.mk (some (.o (.o (.o (.o .h))))) (.un .xor (.t (.o (.i .h)))) none, AOper.mk (some (.i (.o (.o (.o .h))))) (.conv (.int .u8) (.t (.o (.o (.o (.o .h)))))) none, AOper.mk (some (.i (.i (.o (.o .h))))) (.un .xor (.t (.o (.i .h)))) none, AOper.mk (some (.o (.o (.i (.o .h))))) (.bin .shr (.val .int) (.t (.i (.i (.o (.o .h))))) (.c (.int .u64 (.ofNat 8)))) none, AOper.mk (some (.i (.o (.i (.o .h))))) (.conv (.int .u8) (.t (.o (.o (.i (.o .h)))))) none, AOper.mk (some (.o (.i (.i (.o .h))))) (.bslice 1 5 [.int .u8 (.ofNat 0)] [(0, (1, .t (.o .h))), (1, (1, .t (.i (.i (.o .h))))), (2, (1, .t (.o (.i (.i .h))))), (3, (1, .t (.i (.o (.o (.o .h)))))), (4, (1, .t (.i (.o (.i (.o .h))))))]) none, AOper.mk (some (.o (.o (.o (.i .h))))) (.bslice 1 2 [.slice none 0 0 0 true] [(0, (1, .t (.o (.i (.i (.o .h)))))), (1, (1, .t .h))]) none, AOper.mk (some (.i (.o (.o (.i .h))))) (.call n_Concat [.t (.o (.o (.o (.i .h))))]) none, AOper.mk (some (.i (.o .h))) (.mv (.t (.i (.o (.o (.i .h)))))) none]) .ret))) [.tmp (.i (.o .h))]
def Stored_c (n_block : Nat) : AFunc := AFunc.mk 18 (.seq (.reg [AOper.mk (some (.i .h)) (.mv (.c (.slice none 0 0 0 true))) none]) (.seq (.reg [AOper.mk (some (.o (.o .h))) (.mv (.c (.slice none 0 0 0 true))) none]) (.seq (.block 0 (.loop (.seq (.seq (.reg [AOper.mk (some (.o (.i .h))) (.len .slice (.t .h)) none, AOper.mk (some (.i (.i .h))) (.bin .gtr (.val .int) (.t (.o (.i .h))) (.c (.int .i64 (.ofNat 65535)))) none]) (.cond (.t (.i (.i .h))) .skip (.exit 0))) (.block 1 (.seq (.reg [AOper.mk (some (.o (.i (.o .h)))) (.slice (.slice 1) (.t .h) none (some (.c (.int .i64 (.ofNat 65535)))) none) none, AOper.mk (some (.i (.i (.o .h)))) (.call n_block [.t (.o (.i (.o .h))), .c (.int .u8 (.ofNat 0))]) none, AOper.mk (some (.o (.o (.i .h)))) (.append 1 1 (.t (.o (.o .h))) (.t (.i (.i (.o .h))))) none, AOper.mk (some (.o (.o .h))) (.mv (.t (.o (.o (.i .h))))) none]) (.reg [AOper.mk (some (.o (.i (.i .h)))) (.slice (.slice 1) (.t .h) (some (.c (.int .i64 (.ofNat 65535)))) none none) none, AOper.mk (some .h) (.mv (.t (.o (.i (.i .h))))) none])))))) (.seq (.reg [AOper.mk (some (.i (.o (.o (.o .h))))) (.call n_block [.t .h, .c (.int .u8 (.ofNat 1))]) none, AOper.mk (some (.o (.i (.o (.o .h))))) (.append 1 1 (.t (.o (.o .h))) (.t (.i (.o (.o (.o .h)))))) none, AOper.mk (some (.i .h)) (.mv (.t (.o (.i (.o (.o .h)))))) none]) .ret)))) [.tmp (.i .h)]
def Inflate_c (n_NewBits : Nat) (n_iblock : Nat) (n_Used : Nat) : AFunc := AFunc.mk 36 (.seq (.reg [AOper.mk (some (.i (.o .h))) (.mv (.c (.slice none 0 0 0 true))) none, AOper.mk (some (.o (.i .h))) (.mv (.c (.int .i64 (.ofNat 0)))) none, AOper.mk (some (.i (.i .h))) (.mv (.c (.int .i64 (.ofNat 0)))) none]) (.seq (.reg [AOper.mk (some (.o (.o (.i .h)))) (.call n_NewBits [.t .h]) none, AOper.mk (some (.o (.i (.i .h)))) (.minmax true (.c (.int .i64 (.ofNat 0))) [.t (.o .h)]) none, AOper.mk (some (.i (.i (.i .h)))) (.build [.ptr none, .slice none 0 0 0 true, .int .i64 (.ofNat 0)] [(0, (1, .t (.o (.o (.i .h))))), (2, (1, .t (.o (.i (.i .h)))))]) none, AOper.mk (some (.o (.o (.o (.o .h))))) (.box (.t (.i (.i (.i .h))))) none, AOper.mk (some (.o (.o (.o .h)))) (.mv (.t (.o (.o (.o (.o .h)))))) none]) (.block 0 (.loop (.block 1 (.seq (.reg [AOper.mk (some (.i (.i (.o (.o .h))))) (.call n_iblock [.t (.o (.o (.o .h)))]) none, AOper.mk (some (.o (.o (.i (.o .h))))) (.extract (.t (.i (.i (.o (.o .h))))) 0) none, AOper.mk (some (.i (.o (.i (.o .h))))) (.extract (.t (.i (.i (.o (.o .h))))) 1) none, AOper.mk (some (.i (.o (.o .h)))) (.mv (.t (.o (.o (.i (.o .h)))))) none, AOper.mk (some (.o (.i (.o .h)))) (.mv (.t (.i (.o (.i (.o .h)))))) none]) (.block 2 (.seq (.reg [AOper.mk (some (.o (.o (.o (.i .h))))) (.bin .neq (.val .int) (.t (.o (.i (.o .h)))) (.c (.int .i64 (.ofNat 0)))) none, AOper.mk (some (.o (.i (.i (.o .h))))) (.mv (.t (.o (.o (.o (.i .h)))))) none]) (.cond (.t (.o (.i (.i (.o .h))))) (.seq (.reg [AOper.mk (some (.i (.o .h))) (.mv (.c (.slice none 0 0 0 true))) none, AOper.mk (some (.o (.i .h))) (.mv (.c (.int .i64 (.ofNat 0)))) none, AOper.mk (some (.i (.i .h))) (.mv (.t (.o (.i (.o .h))))) none]) .ret) (.seq (.reg [AOper.mk (some (.o (.i (.o (.i .h))))) (.mv (.t (.i (.o (.o .h))))) none]) (.cond (.t (.o (.i (.o (.i .h))))) (.seq (.dreg [(AOper.mk (some (.o (.o (.i (.i .h))))) (.mv (.t (.o (.o (.o .h))))) none, []), (AOper.mk (some (.i (.o (.i (.i .h))))) (.nilchk (.t (.o (.o (.i (.i .h)))))) none, []), (AOper.mk (some (.o (.i (.i (.i .h))))) (.fieldAddr 1 (.t (.i (.o (.i (.i .h)))))) none, []), (AOper.mk (some (.i (.i (.i (.i .h))))) (.load false 1 (.t (.o (.i (.i (.i .h)))))) none, [7, 8]), (AOper.mk (some (.o (.o (.o (.o (.o .h)))))) (.mv (.t (.o (.o (.o .h))))) none, []), (AOper.mk (some (.i (.o (.o (.o (.o .h)))))) (.nilchk (.t (.o (.o (.o (.o (.o .h))))))) none, []), (AOper.mk (some (.o (.i (.o (.o (.o .h)))))) (.fieldAddr 0 (.t (.i (.o (.o (.o (.o .h))))))) none, []), (AOper.mk (some (.i (.i (.o (.o (.o .h)))))) (.load false 1 (.t (.o (.i (.o (.o (.o .h))))))) none, [3]), (AOper.mk (some (.o (.o (.i (.o (.o .h)))))) (.call n_Used [.t (.i (.i (.o (.o (.o .h)))))]) none, [3]), (AOper.mk (some (.i (.o .h))) (.mv (.t (.i (.i (.i (.i .h)))))) none, []), (AOper.mk (some (.o (.i .h))) (.mv (.t (.o (.o (.i (.o (.o .h))))))) none, []), (AOper.mk (some (.i (.i .h))) (.mv (.c (.int .i64 (.ofNat 0)))) none, [])]) .ret) .skip))))))))))) [.tmp (.i (.o .h)), .tmp (.o (.i .h)), .tmp (.i (.i .h))]
def iblock_c (n_Take : Nat) (n_istored : Nat) (n_fixed : Nat) (n_own : Nat) (n_coded : Nat) : AFunc := AFunc.mk 63 (.seq (.reg [AOper.mk (some (.i .h)) (.mv (.c (.bool false))) none, AOper.mk (some (.o (.o .h))) (.mv (.c (.int .i64 (.ofNat 0)))) none]) (.seq (.reg [AOper.mk (some (.o (.i (.i .h)))) (.nilchk (.t .h)) none, AOper.mk (some (.i (.i (.i .h)))) (.fieldAddr 0 (.t (.o (.i (.i .h))))) none, AOper.mk (some (.o (.o (.o (.o .h))))) (.load false 1 (.t (.i (.i (.i .h))))) none, AOper.mk (some (.i (.o (.o (.o .h))))) (.call n_Take [.t (.o (.o (.o (.o .h)))), .c (.int .i64 (.ofNat 1))]) none, AOper.mk (some (.o (.i (.o (.o .h))))) (.extract (.t (.i (.o (.o (.o .h))))) 0) none, AOper.mk (some (.i (.i (.o (.o .h))))) (.extract (.t (.i (.o (.o (.o .h))))) 1) none, AOper.mk (some (.i (.o .h))) (.mv (.t (.o (.i (.o (.o .h)))))) none, AOper.mk (some (.o (.i .h))) (.mv (.t (.i (.i (.o (.o .h)))))) none]) (.seq (.reg [AOper.mk (some (.o (.i (.i (.o .h))))) (.nilchk (.t .h)) none, AOper.mk (some (.i (.i (.i (.o .h))))) (.fieldAddr 0 (.t (.o (.i (.i (.o .h)))))) none, AOper.mk (some (.o (.o (.o (.i .h))))) (.load false 1 (.t (.i (.i (.i (.o .h)))))) none, AOper.mk (some (.i (.o (.o (.i .h))))) (.call n_Take [.t (.o (.o (.o (.i .h)))), .c (.int .i64 (.ofNat 2))]) none, AOper.mk (some (.o (.i (.o (.i .h))))) (.extract (.t (.i (.o (.o (.i .h))))) 0) none, AOper.mk (some (.i (.i (.o (.i .h))))) (.extract (.t (.i (.o (.o (.i .h))))) 1) none, AOper.mk (some (.i (.i .h))) (.mv (.t (.o (.i (.o (.i .h)))))) none, AOper.mk (some (.o (.o (.o .h)))) (.mv (.t (.i (.i (.o (.i .h)))))) none]) (.seq (.seq (.reg [AOper.mk (some (.i (.o (.i (.i .h))))) (.un .not (.t (.o (.i .h)))) none, AOper.mk (some (.o (.i (.i (.i .h))))) (.mv (.t (.i (.o (.i (.i .h)))))) none, AOper.mk (some (.o (.o (.o (.o (.o .h)))))) (.un .not (.t (.o (.o (.o .h))))) (some (.o (.i (.i (.i .h))), false)), AOper.mk (some (.i (.o (.o (.o (.o .h)))))) (.pick (.t (.o (.i (.i (.i .h))))) (.c (.bool true)) (.t (.o (.o (.o (.o (.o .h))))))) none]) (.cond (.t (.i (.o (.o (.o (.o .h)))))) (.seq (.reg [AOper.mk (some (.i .h)) (.mv (.c (.bool false))) none, AOper.mk (some (.o (.o .h))) (.mv (.c (.int .i64 (.ofNat 3)))) none]) .ret) .skip)) (.seq (.reg [AOper.mk (some (.i (.o (.o .h)))) (.mv (.c (.ptr none))) none, AOper.mk (some (.o (.i (.o .h)))) (.mv (.c (.ptr none))) none]) (.seq (.seq (.reg [AOper.mk (some (.o (.i (.o (.o (.o .h)))))) (.mv (.t (.i (.i .h)))) none]) (.block 0 (.seq (.reg [AOper.mk (some (.o (.o (.i (.o (.o .h)))))) (.bin .eql (.val .int) (.t (.o (.i (.o (.o (.o .h)))))) (.c (.int .i64 (.ofNat 0)))) none, AOper.mk (some (.i (.i (.o (.o (.o .h)))))) (.mv (.t (.o (.o (.i (.o (.o .h))))))) none]) (.cond (.t (.i (.i (.o (.o (.o .h)))))) (.seq (.reg [AOper.mk (some (.o (.i (.i (.o (.o .h)))))) (.bin .eql (.val .int) (.t (.i (.o .h))) (.c (.int .i64 (.ofNat 1)))) none, AOper.mk (some (.o (.o (.o (.i (.o .h)))))) (.call n_istored [.t .h]) none, AOper.mk (some (.i .h)) (.mv (.t (.o (.i (.i (.o (.o .h))))))) none, AOper.mk (some (.o (.o .h))) (.mv (.t (.o (.o (.o (.i (.o .h))))))) none]) .ret) (.seq (.reg [AOper.mk (some (.o (.i (.o (.i (.o .h)))))) (.bin .eql (.val .int) (.t (.o (.i (.o (.o (.o .h)))))) (.c (.int .i64 (.ofNat 1)))) none, AOper.mk (some (.i (.o (.o (.i (.o .h)))))) (.mv (.t (.o (.i (.o (.i (.o .h))))))) none]) (.cond (.t (.i (.o (.o (.i (.o .h)))))) (.reg [AOper.mk (some (.o (.o (.i (.i (.o .h)))))) (.call n_fixed []) none, AOper.mk (some (.i (.o (.i (.i (.o .h)))))) (.extract (.t (.o (.o (.i (.i (.o .h)))))) 0) none, AOper.mk (some (.o (.i (.i (.i (.o .h)))))) (.extract (.t (.o (.o (.i (.i (.o .h)))))) 1) none, AOper.mk (some (.i (.o (.o .h)))) (.mv (.t (.i (.o (.i (.i (.o .h))))))) none, AOper.mk (some (.o (.i (.o .h)))) (.mv (.t (.o (.i (.i (.i (.o .h))))))) none]) (.seq (.reg [AOper.mk (some (.o (.o (.o (.o (.i .h)))))) (.bin .eql (.val .int) (.t (.o (.i (.o (.o (.o .h)))))) (.c (.int .i64 (.ofNat 2)))) none, AOper.mk (some (.i (.i (.i (.i (.o .h)))))) (.mv (.t (.o (.o (.o (.o (.i .h))))))) none]) (.cond (.t (.i (.i (.i (.i (.o .h)))))) (.seq (.reg [AOper.mk (some (.i (.i (.o .h)))) (.mv (.c (.int .i64 (.ofNat 0)))) none]) (.seq (.reg [AOper.mk (some (.i (.i (.o (.o (.i .h)))))) (.call n_own [.t .h]) none, AOper.mk (some (.o (.o (.i (.o (.i .h)))))) (.extract (.t (.i (.i (.o (.o (.i .h)))))) 0) none, AOper.mk (some (.i (.o (.i (.o (.i .h)))))) (.extract (.t (.i (.i (.o (.o (.i .h)))))) 1) none, AOper.mk (some (.o (.i (.i (.o (.i .h)))))) (.extract (.t (.i (.i (.o (.o (.i .h)))))) 2) none, AOper.mk (some (.i (.o (.o .h)))) (.mv (.t (.o (.o (.i (.o (.i .h))))))) none, AOper.mk (some (.o (.i (.o .h)))) (.mv (.t (.i (.o (.i (.o (.i .h))))))) none, AOper.mk (some (.i (.i (.o .h)))) (.mv (.t (.o (.i (.i (.o (.i .h))))))) none]) (.seq (.reg [AOper.mk (some (.o (.o (.o (.i (.i .h)))))) (.bin .neq (.val .int) (.t (.i (.i (.o .h)))) (.c (.int .i64 (.ofNat 0)))) none]) (.cond (.t (.o (.o (.o (.i (.i .h)))))) (.seq (.reg [AOper.mk (some (.i .h)) (.mv (.c (.bool false))) none, AOper.mk (some (.o (.o .h))) (.mv (.t (.i (.i (.o .h))))) none]) .ret) .skip)))) (.seq (.reg [AOper.mk (some (.i .h)) (.mv (.c (.bool false))) none, AOper.mk (some (.o (.o .h))) (.mv (.c (.int .i64 (.ofNat 2)))) none]) .ret))))))))) (.seq (.reg [AOper.mk (some (.i (.i (.o (.i (.i .h)))))) (.bin .eql (.val .int) (.t (.i (.o .h))) (.c (.int .i64 (.ofNat 1)))) none, AOper.mk (some (.i (.i (.i (.i (.i .h)))))) (.call n_coded [.t .h, .t (.i (.o (.o .h))), .t (.o (.i (.o .h)))]) none, AOper.mk (some (.i .h)) (.mv (.t (.i (.i (.o (.i (.i .h))))))) none, AOper.mk (some (.o (.o .h))) (.mv (.t (.i (.i (.i (.i (.i .h))))))) none]) .ret))))))) [.tmp (.i .h), .tmp (.o (.o .h))]
def istored_c (n_Align : Nat) (n_Take : Nat) (n_iput : Nat) : AFunc := AFunc.mk 64 (.seq (.reg [AOper.mk (some (.i .h)) (.mv (.c (.int .i64 (.ofNat 0)))) none]) (.seq (.reg [AOper.mk (some (.o (.o (.i .h)))) (.nilchk (.t .h)) none, AOper.mk (some (.i (.o (.i .h)))) (.fieldAddr 0 (.t (.o (.o (.i .h))))) none, AOper.mk (some (.o (.i (.i .h)))) (.load false 1 (.t (.i (.o (.i .h))))) none, AOper.mk (some (.i (.i (.i .h)))) (.call n_Align [.t (.o (.i (.i .h)))]) none]) (.seq (.reg [AOper.mk (some (.o (.i (.o (.o .h))))) (.nilchk (.t .h)) none, AOper.mk (some (.i (.i (.o (.o .h))))) (.fieldAddr 0 (.t (.o (.i (.o (.o .h)))))) none, AOper.mk (some (.o (.o (.i (.o .h))))) (.load false 1 (.t (.i (.i (.o (.o .h)))))) none, AOper.mk (some (.i (.o (.i (.o .h))))) (.call n_Take [.t (.o (.o (.i (.o .h)))), .c (.int .i64 (.ofNat 16))]) none, AOper.mk (some (.o (.i (.i (.o .h))))) (.extract (.t (.i (.o (.i (.o .h))))) 0) none, AOper.mk (some (.i (.i (.i (.o .h))))) (.extract (.t (.i (.o (.i (.o .h))))) 1) none, AOper.mk (some (.o (.o .h))) (.mv (.t (.o (.i (.i (.o .h)))))) none, AOper.mk (some (.i (.o .h))) (.mv (.t (.i (.i (.i (.o .h)))))) none]) (.seq (.reg [AOper.mk (some (.o (.i (.o (.i .h))))) (.nilchk (.t .h)) none, AOper.mk (some (.i (.i (.o (.i .h))))) (.fieldAddr 0 (.t (.o (.i (.o (.i .h)))))) none, AOper.mk (some (.o (.o (.i (.i .h))))) (.load false 1 (.t (.i (.i (.o (.i .h)))))) none, AOper.mk (some (.i (.o (.i (.i .h))))) (.call n_Take [.t (.o (.o (.i (.i .h)))), .c (.int .i64 (.ofNat 16))]) none, AOper.mk (some (.o (.i (.i (.i .h))))) (.extract (.t (.i (.o (.i (.i .h))))) 0) none, AOper.mk (some (.i (.i (.i (.i .h))))) (.extract (.t (.i (.o (.i (.i .h))))) 1) none, AOper.mk (some (.o (.i .h))) (.mv (.t (.o (.i (.i (.i .h)))))) none, AOper.mk (some (.i (.i .h))) (.mv (.t (.i (.i (.i (.i .h)))))) none]) (.seq (.block 0 (.seq (.reg [AOper.mk (some (.o (.i (.o (.o (.o .h)))))) (.un .not (.t (.i (.o .h)))) none, AOper.mk (some (.i (.i (.o (.o (.o .h)))))) (.mv (.t (.o (.i (.o (.o (.o .h))))))) none, AOper.mk (some (.i (.o (.i (.o (.o .h)))))) (.un .not (.t (.i (.i .h)))) (some (.i (.i (.o (.o (.o .h)))), false)), AOper.mk (some (.o (.i (.i (.o (.o .h)))))) (.pick (.t (.i (.i (.o (.o (.o .h)))))) (.c (.bool true)) (.t (.i (.o (.i (.o (.o .h))))))) none, AOper.mk (some (.o (.o (.o (.o (.o .h)))))) (.mv (.t (.o (.i (.i (.o (.o .h))))))) none]) (.cond (.t (.o (.o (.o (.o (.o .h)))))) (.seq (.reg [AOper.mk (some (.i .h)) (.mv (.c (.int .i64 (.ofNat 3)))) none]) .ret) (.seq (.reg [AOper.mk (some (.o (.i (.o (.i (.o .h)))))) (.bin .xor (.val .int) (.t (.o (.o .h))) (.t (.o (.i .h)))) none, AOper.mk (some (.i (.i (.o (.i (.o .h)))))) (.bin .neq (.val .int) (.t (.o (.i (.o (.i (.o .h)))))) (.c (.int .i64 (.ofNat 65535)))) none, AOper.mk (some (.i (.i (.i (.o (.o .h)))))) (.mv (.t (.i (.i (.o (.i (.o .h))))))) none]) (.cond (.t (.i (.i (.i (.o (.o .h)))))) (.seq (.reg [AOper.mk (some (.i .h)) (.mv (.c (.int .i64 (.ofNat 2)))) none]) .ret) .skip))))) (.seq (.seq (.reg [AOper.mk (some (.o (.o (.i (.i (.o .h)))))) (.mv (.t (.o (.o .h)))) none, AOper.mk (some (.i (.o (.i (.i (.o .h)))))) (.mv (.c (.int .i64 (.ofNat 0)))) none]) (.block 1 (.loop (.seq (.reg [AOper.mk (some (.o (.i (.i (.i (.o .h)))))) (.bin .lss (.val .int) (.t (.i (.o (.i (.i (.o .h)))))) (.t (.o (.o (.i (.i (.o .h))))))) none]) (.seq (.cond (.t (.o (.i (.i (.i (.o .h)))))) .skip (.exit 1)) (.seq (.block 2 (.seq (.reg [AOper.mk (some (.i (.o (.o (.o (.i .h)))))) (.nilchk (.t .h)) none, AOper.mk (some (.o (.i (.o (.o (.i .h)))))) (.fieldAddr 0 (.t (.i (.o (.o (.o (.i .h))))))) none, AOper.mk (some (.i (.i (.o (.o (.i .h)))))) (.load false 1 (.t (.o (.i (.o (.o (.i .h))))))) none, AOper.mk (some (.o (.o (.i (.o (.i .h)))))) (.call n_Take [.t (.i (.i (.o (.o (.i .h))))), .c (.int .i64 (.ofNat 8))]) none, AOper.mk (some (.i (.o (.i (.o (.i .h)))))) (.extract (.t (.o (.o (.i (.o (.i .h)))))) 0) none, AOper.mk (some (.o (.i (.i (.o (.i .h)))))) (.extract (.t (.o (.o (.i (.o (.i .h)))))) 1) none, AOper.mk (some (.o (.o (.o .h)))) (.mv (.t (.i (.o (.i (.o (.i .h))))))) none, AOper.mk (some (.i (.o (.o .h)))) (.mv (.t (.o (.i (.i (.o (.i .h))))))) none]) (.seq (.seq (.reg [AOper.mk (some (.o (.o (.o (.i (.i .h)))))) (.un .not (.t (.i (.o (.o .h))))) none]) (.cond (.t (.o (.o (.o (.i (.i .h)))))) (.seq (.reg [AOper.mk (some (.i .h)) (.mv (.c (.int .i64 (.ofNat 3)))) none]) .ret) .skip)) (.seq (.reg [AOper.mk (some (.i (.i (.o (.i (.i .h)))))) (.conv (.int .u8) (.t (.o (.o (.o .h))))) none, AOper.mk (some (.o (.o (.i (.i (.i .h)))))) (.call n_iput [.t .h, .t (.i (.i (.o (.i (.i .h)))))]) none, AOper.mk (some (.o (.i (.o .h)))) (.mv (.t (.o (.o (.i (.i (.i .h))))))) none]) (.seq (.reg [AOper.mk (some (.o (.i (.i (.i (.i .h)))))) (.bin .neq (.val .int) (.t (.o (.i (.o .h)))) (.c (.int .i64 (.ofNat 0)))) none]) (.cond (.t (.o (.i (.i (.i (.i .h)))))) (.seq (.reg [AOper.mk (some (.i .h)) (.mv (.t (.o (.i (.o .h))))) none]) .ret) .skip)))))) (.reg [AOper.mk (some (.o (.o (.o (.o (.o (.o .h))))))) (.bin .add (.val .int) (.t (.i (.o (.i (.i (.o .h)))))) (.c (.int .i64 (.ofNat 1)))) none, AOper.mk (some (.i (.o (.i (.i (.o .h)))))) (.mv (.t (.o (.o (.o (.o (.o (.o .h)))))))) none]))))))) (.seq (.reg [AOper.mk (some (.i .h)) (.mv (.c (.int .i64 (.ofNat 0)))) none]) .ret))))))) [.tmp (.i .h)]
def iput_c : AFunc := AFunc.mk 25 (.seq (.reg [AOper.mk (some (.i (.o .h))) (.mv (.c (.int .i64 (.ofNat 0)))) none]) (.seq (.seq (.dreg [(AOper.mk (some (.o (.i .h))) (.mv (.t .h)) none, []), (AOper.mk (some (.i (.i .h))) (.nilchk (.t (.o (.i .h)))) none, []), (AOper.mk (some (.o (.o (.o .h)))) (.fieldAddr 1 (.t (.i (.i .h)))) none, []), (AOper.mk (some (.i (.o (.o .h)))) (.load false 1 (.t (.o (.o (.o .h))))) none, [8]), (AOper.mk (some (.o (.i (.o .h)))) (.len .slice (.t (.i (.o (.o .h))))) none, []), (AOper.mk (some (.i (.i (.o .h)))) (.mv (.t .h)) none, []), (AOper.mk (some (.o (.o (.i .h)))) (.nilchk (.t (.i (.i (.o .h))))) none, []), (AOper.mk (some (.i (.o (.i .h)))) (.fieldAddr 2 (.t (.o (.o (.i .h))))) none, []), (AOper.mk (some (.o (.i (.i .h)))) (.load false 1 (.t (.i (.o (.i .h))))) none, [3]), (AOper.mk (some (.i (.i (.i .h)))) (.bin .geq (.val .int) (.t (.o (.i (.o .h)))) (.t (.o (.i (.i .h))))) none, [])]) (.cond (.t (.i (.i (.i .h)))) (.seq (.reg [AOper.mk (some (.i (.o .h))) (.mv (.c (.int .i64 (.ofNat 4)))) none]) .ret) .skip)) (.seq (.reg [AOper.mk (some (.o (.i (.o (.o .h))))) (.nilchk (.t .h)) none, AOper.mk (some (.i (.i (.o (.o .h))))) (.fieldAddr 1 (.t (.o (.i (.o (.o .h)))))) none, AOper.mk (some (.o (.o (.i (.o .h))))) (.load false 1 (.t (.i (.i (.o (.o .h)))))) none, AOper.mk (some (.o (.i (.i (.o .h))))) (.bslice 1 1 [.int .u8 (.ofNat 0)] [(0, (1, .t (.o .h)))]) none, AOper.mk (some (.i (.i (.i (.o .h))))) (.append 1 1 (.t (.o (.o (.i (.o .h))))) (.t (.o (.i (.i (.o .h)))))) none, AOper.mk (some (.o (.o (.o (.i .h))))) (.nilchk (.t .h)) none, AOper.mk (some (.i (.o (.o (.i .h))))) (.fieldAddr 1 (.t (.o (.o (.o (.i .h)))))) none, AOper.mk none (.store 1 (.t (.i (.o (.o (.i .h))))) (.t (.i (.i (.i (.o .h)))))) none]) (.seq (.reg [AOper.mk (some (.i (.o .h))) (.mv (.c (.int .i64 (.ofNat 0)))) none]) .ret)))) [.tmp (.i (.o .h))]
def NewBits_c (n_Clone : Nat) : AFunc := AFunc.mk 7 (.seq (.reg [AOper.mk (some (.i .h)) (.mv (.c (.ptr none))) none]) (.seq (.reg [AOper.mk (some (.i (.o .h))) (.call n_Clone [.t .h]) none, AOper.mk (some (.o (.i .h))) (.build [.slice none 0 0 0 true, .int .i64 (.ofNat 0)] [(0, (1, .t (.i (.o .h))))]) none, AOper.mk (some (.i (.i .h))) (.box (.t (.o (.i .h)))) none, AOper.mk (some (.i .h)) (.mv (.t (.i (.i .h)))) none]) .ret)) [.tmp (.i .h)]
attribute [local simp] wp_skip wp_ret wp_exit wp_reg wp_seq wp_cond wp_block thenQ_normal thenQ_ret thenQ_exit blockQ_normal blockQ_ret blockQ_exit wpCond_true wpCond_false wpOps_nil wpVal_some wpGuard_true wpGuard_false wpOps_guard wpOps_cons
  put_at put_no ev_c ev_slot posEq_h posEq_o posEq_i posEq_ho posEq_hi posEq_oh posEq_ih posEq_oi posEq_io sel_true sel_false
  okv_some step_mv step_call step_pick pickV_bool step_bin bin_add bin_sub bin_mul bin_eql bin_neq bin_lss bin_leq bin_gtr bin_geq bin_eqb bin_neb bin_eqs bin_nes step_un un_not un_neg step_len len_slice len_str len_const step_extract extractV nth step_convInt conv_int step_convStr step_slice step_idxAddr natOf_nat step_load step_index step_field step_fieldAddr step_build step_minmax
  step_alloc step_bslice bsliceV_some newV_some step_store step_append boolIs_b boolIs_t finQ_ret finQ_normal ressE_nil ressE_cons resE_tmp consO_some initE_nil initE_cons pos_0 pos_1 pos_2 pos_3 pos_4 pos_5 pos_6 pos_7 pos_8 plain_bool plain_int plain_str plain_ptr plain_slice plain_map plain_agg plain_func plain_nilFunc V.undef oneOf_one oneOf_two ble_self bin_agg eqV_parts eqV_int eqV_bool eqV_str eqParts_nil eqParts_cons eqC_true eqC_false eqO_some eqR_eql eqR_neq
open Go.Vabs.Pk Go.Vabs.Ph Go.Vabs.Fb Go.Vabs.Sa Go.Vabs.Sb Go.Vabs.Sc Go.Vabs.Sg Go.Vabs.Sh
attribute [local simp] step_nilchk nilchk_ptr step_box cells_int cells_bool cells_str cells_slice cells_ptr cells_agg fieldAddrV natOf_zero fill repN splice over newV
  wp_dreg wpDs_nil wpDs_cons wantedE_none wantedE_some wpDGuard_true wpDGuard_lim wpDGuard_false wpDLim_true wpDVal_free wpDVal_lim back_limited next_limited limF_dir limF_false foot_load foot_convStr okAll_nil okAll_cons pastsOf nthP ahead few_next load_limited okPair_dd okPair_dc okPair_cd okPair_cc anyIn_nil anyIn_same anyIn_cons meets_nil meets_nil' blt_dec
/- BYTES AS A BLOCK THAT IS STORED -/
def blkH (last n : Nat) : List Nat := [last, n % 256, n / 256 % 256, 255 - n % 256, 255 - n / 256 % 256]
def blkB (last : Nat) (d : List Nat) : List Nat := blkH last d.length ++ d
theorem wrap_not8 {n : Nat} : wrapV .u8 (-(n : Int) - 1) = ((255 - n % 256 : Nat) : Int) := by
  rw [wrapV_eq]
  simp [IntKind.wrap, IntKind.signed, IntKind.bits]
  omega
theorem xor_not {n : Nat} (h : n < 9223372036854775808) : unV .xor (.int .i64 (n : Int)) = some (.int .i64 (-(n : Int) - 1)) := by
  have key : bits .xor .i64 (-1) (n : Int) = some (-(n : Int) - 1) := by
    show bitsSlow .xor .i64 (-1) (n : Int) = _
    unfold bitsSlow
    dsimp only
    have e : (BitVec.ofInt IntKind.i64.bits (-1) ^^^ BitVec.ofInt IntKind.i64.bits (n : Int)).toNat = 18446744073709551615 - n := by
      show (BitVec.ofInt 64 (-1) ^^^ BitVec.ofInt 64 (n : Int)).toNat = _
      rw [show BitVec.ofInt 64 (-1) = BitVec.allOnes 64 from by decide, BitVec.allOnes_xor, BitVec.toNat_not, BitVec.ofInt_natCast, BitVec.toNat_ofNat]
      omega
    rw [e]
    have : IntKind.i64.wrap ((18446744073709551615 - n : Nat) : Int) = -(n : Int) - 1 := by
      simp [IntKind.wrap, IntKind.signed, IntKind.bits]
      omega
    rw [this]
  show (match bits .xor .i64 (-1) (n : Int) with | some r => some (V.int .i64 r) | none => none) = _
  rw [key]
theorem shr_not {eq : EqKind} {n : Nat} : binV .shr eq (.int .i64 (-(n : Int) - 1)) (.int .u64 8) = some (.int .i64 (-((n / 256 : Nat) : Int) - 1)) := by
  refine (bin_shr (n := 8)).trans ?_
  show some (V.int .i64 (Int.fdiv (-(n : Int) - 1) 256)) = _
  rw [Int.fdiv_eq_ediv_of_nonneg _ (by decide)]
  congr 2
  omega
theorem goods_bytes' {n : Nat} {bs : List Nat} : goods n (bytesV bs) = true := flats_good (List.all_eq_true.2 bytesV_flat)
def BlockF (call : CallT) (g : Nat) : Prop := ∀ os v bs (last : Nat), v.good os.length = true → lookB (few os).look v = some bs → bs.length ≤ 65535 → last < 256 →
  ∃ l, call g [v, .int .u8 (last : Int)] (few os) = some (.slice (some (os.length + l.length, 0)) 1 (bs.length + 5) (bs.length + 5) false, few (os ++ l ++ [some (newBytes (blkB last bs))]))
theorem AObj.good_le {n m : Nat} (hnm : n ≤ m) {o : AObj} (h : o.good n = true) : o.good m = true := by
  cases o with
  | cells own cs => exact goods_le hnm h
  | map own es c =>
    show es.all (entGood m) = true
    have h : es.all (entGood n) = true := h
    rw [List.all_eq_true] at h ⊢
    intro e he
    have := h e he
    simp only [entGood, Bool.and_eq_true] at this ⊢
    exact ⟨V.good_le hnm this.1, V.good_le hnm this.2⟩
theorem look_grow {os l : List (Option AObj)} {v : V} {bs : List Nat} (h : lookB (few os).look v = some bs) : lookB (few (os ++ l)).look v = some bs := by
  refine lookB_mono (fun i o ho => ?_) h
  obtain ⟨h1, o', h2, h3, rfl⟩ := look_some ho
  have h1 : i < os.length := h1
  refine look_of (by rw [few_next, List.length_append]; omega) ?_ (AObj.good_le (by rw [few_next, few_next, List.length_append]; omega) h3)
  rw [few_get, join_app h1, ← few_get]
  exact h2
theorem block_run {call : CallT} {lf nC : Nat} (hC : ConcatF call nC) {os : List (Option AObj)} {v : V} {bs : List Nat} {last : Nat} (hg : v.good os.length = true) (h : lookB (few os).look v = some bs) (hl : bs.length ≤ 65535) (hlast : last < 256) :
    ∃ l, enterF call lf [v, .int .u8 (last : Int)] (few os) (block_c nC) = some (.slice (some (os.length + l.length, 0)) 1 (bs.length + 5) (bs.length + 5) false, few (os ++ l ++ [some (newBytes (blkB last bs))])) := by
  have hlen := len_bytes (st' := few os) (lookB_at h)
  obtain ⟨n, hn⟩ : ∃ n, n = bs.length := ⟨_, rfl⟩
  rw [← hn] at hlen hl
  obtain ⟨d0, hd0⟩ : ∃ d, d = n % 256 := ⟨_, rfl⟩
  obtain ⟨d1, hd1⟩ : ∃ d, d = n / 256 := ⟨_, rfl⟩
  obtain ⟨d2, hd2⟩ : ∃ d, d = d1 % 256 := ⟨_, rfl⟩
  obtain ⟨d3, hd3⟩ : ∃ d, d = 255 - n % 256 := ⟨_, rfl⟩
  obtain ⟨d4, hd4⟩ : ∃ d, d = 255 - d1 % 256 := ⟨_, rfl⟩
  have w0 : wrapV .u8 (n : Int) = (d0 : Int) := by rw [hd0]; rfl
  have w2 : wrapV .u8 (d1 : Int) = (d2 : Int) := by rw [hd2]; rfl
  have sh : binV .shr (.val .int) (.int .i64 (n : Int)) (.int .u64 8) = some (.int .i64 (d1 : Int)) := by rw [hd1]; exact shr_n (m := 8) rfl (by omega)
  obtain ⟨y, hy⟩ : ∃ y : Int, y = -(n : Int) - 1 := ⟨_, rfl⟩
  obtain ⟨y2, hy2⟩ : ∃ y : Int, y = -(d1 : Int) - 1 := ⟨_, rfl⟩
  have xo : unV .xor (.int .i64 (n : Int)) = some (.int .i64 y) := by rw [hy]; exact xor_not (by omega)
  have w3 : wrapV .u8 y = (d3 : Int) := by rw [hy, hd3]; exact wrap_not8
  have s4 : binV .shr (.val .int) (.int .i64 y) (.int .u64 8) = some (.int .i64 y2) := by rw [hy, hy2, hd1]; exact shr_not
  have w4 : wrapV .u8 y2 = (d4 : Int) := by rw [hy2, hd4]; exact wrap_not8
  obtain ⟨A, hA⟩ : ∃ A, A = os ++ [some (newBytes (blkH last n))] := ⟨_, rfl⟩
  have hAl : A.length = os.length + 1 := by rw [hA]; simp
  have alA : (few os).alloc (.cells true [.int .u8 (last : Int), .int .u8 (d0 : Int), .int .u8 (d2 : Int), .int .u8 (d3 : Int), .int .u8 (d4 : Int)]) = some (os.length, few A) := by
    rw [hA, few_alloc]
    simp [blkH, newBytes, bytesV, hd0, hd2, hd3, hd4, hd1]
  obtain ⟨Bm, hB⟩ : ∃ Bm, Bm = A ++ [some (AObj.cells true [V.slice (some (os.length, 0)) 1 5 5 true, v])] := ⟨_, rfl⟩
  have hBl : Bm.length = os.length + 2 := by rw [hB]; simp [hAl]
  have alB : (few A).alloc (.cells true [V.slice (some (os.length, 0)) 1 5 5 true, v]) = some (os.length + 1, few Bm) := by rw [hB, ← hAl]; exact few_alloc A _
  have hvB : lookB (few Bm).look v = some bs := by
    rw [hB, hA, List.append_assoc]; exact look_grow h
  have hhl : (blkH last n).length = 5 := rfl
  have hhb : ∀ b ∈ blkH last n, b < 256 := by
    intro b hb
    simp only [blkH, List.mem_cons, List.not_mem_nil, or_false] at hb
    omega
  have hhB : lookB (few Bm).look (.slice (some (os.length, 0)) 1 5 5 true) = some (blkH last n) := by
    refine lookB_of (own := true) (cs := bytesV (blkH last n)) (by rw [few_next]; omega) ?_ goods_bytes' (Nat.le_refl _) (by rw [bytesV_len, hhl]; omega) rfl hhb
    rw [few_get, hB, join_app (by omega), hA]
    simp [newBytes]
  have hsl : lookSL (few Bm).look (.slice (some (os.length + 1, 0)) 1 2 2 true) = some [blkH last n, bs] := by
    have hgd : goods (few Bm).next [V.slice (some (os.length, 0)) 1 5 5 true, v] = true := by
      have h1 : v.good Bm.length = true := V.good_le (by omega) hg
      simp only [goods, few_next, h1, V.good, Bool.and_true, Nat.blt_eq]
      omega
    have hlk : (few Bm).look (os.length + 1) = some (AObj.cells false [V.slice (some (os.length, 0)) 1 5 5 true, v]) := by
      refine look_of (o := AObj.cells true [V.slice (some (os.length, 0)) 1 5 5 true, v]) (by rw [few_next]; omega) ?_ hgd
      rw [few_get, hB, ← hAl]; simp
    show (if 2 ≤ 2 then match (few Bm).look (os.length + 1) with | some (.cells _ cs) => (match cut 0 2 cs with | some vs => if vs.length = 2 then lookBs (few Bm).look vs else none | none => none) | _ => none else none) = _
    rw [if_pos (Nat.le_refl _), hlk]
    show (if ([V.slice (some (os.length, 0)) 1 5 5 true, v] : List V).length = 2 then lookBs (few Bm).look [V.slice (some (os.length, 0)) 1 5 5 true, v] else none) = _
    rw [if_pos (show ([V.slice (some (os.length, 0)) 1 5 5 true, v] : List V).length = 2 from rfl)]
    simp only [lookBs, hhB, hvB]
  have hcc := hC Bm (.slice (some (os.length + 1, 0)) 1 2 2 true) [blkH last n, bs] (by simp only [V.good, Nat.blt_eq]; omega) hsl (by simp) (by simp only [List.flatten_cons, List.flatten_nil, List.append_nil, List.length_append, hhl, ← hn]; omega)
  have hfl : [blkH last n, bs].flatten = blkB last bs := by simp [blkB, hn]
  have hbl : (blkB last bs).length = bs.length + 5 := by simp [blkB, blkH]
  rw [hfl] at hcc
  have hne : blkB last bs ≠ [] := by intro e; rw [e] at hbl; simp at hbl
  rw [show concatA (blkB last bs) = ([newBytes (blkB last bs)], fun k => .slice (some (k, 0)) 1 (blkB last bs).length (blkB last bs).length false) from if_neg hne, hbl] at hcc
  refine ⟨[some (newBytes (blkH last n)), some (AObj.cells true [V.slice (some (os.length, 0)) 1 5 5 true, v])], ?_⟩
  have hBe : os ++ [some (newBytes (blkH last n)), some (AObj.cells true [V.slice (some (os.length, 0)) 1 5 5 true, v])] = Bm := by rw [hB, hA]; simp
  rw [hBe]
  have hcc : call nC [.slice (some (os.length + 1, 0)) 1 2 2 true] (few Bm) = some (.slice (some (os.length + 2, 0)) 1 (bs.length + 5) (bs.length + 5) false, few (Bm ++ [some (newBytes (blkB last bs))])) := by
    rw [hcc, hBl]; rfl
  have hvc : v.cells = some [v] := by
    cases v with
    | slice a e m c f => rfl
    | _ => cases hlen
  refine enter_eq ?_
  simp (disch := omega) [hlen, w0, sh, w2, xo, w3, s4, w4, alA, alB, hcc, hvc]
theorem BlockF.code {base : CallT} {g lf nC : Nat} (hC : ConcatF base nC) : BlockF (Vabs.withF base g lf (block_c nC)) g := fun os v bs last h1 h2 h3 h4 => by
  obtain ⟨l, h⟩ := block_run (call := base) (lf := lf) hC h1 h2 h3 h4
  exact ⟨l, by rw [withF_same]; exact h⟩
theorem BlockF.withF {call : CallT} {n g lf : Nat} {fn : AFunc} (h : BlockF call n) (hne : n ≠ g) : BlockF (Vabs.withF call g lf fn) n := fun os v bs last h1 h2 h3 h4 => by
  obtain ⟨l, h⟩ := h os v bs last h1 h2 h3 h4
  exact ⟨l, by rw [withF_other hne]; exact h⟩
theorem BlockF.other {call : CallT} {n g : Nat} {l : List V → St → Option (V × St)} (h : BlockF call n) (hne : n ≠ g) : BlockF (withL call g l) n := fun os v bs last h1 h2 h3 h4 => by
  obtain ⟨l, h⟩ := h os v bs last h1 h2 h3 h4
  exact ⟨l, by rw [withL_other hne]; exact h⟩
theorem look_keep {os os' : List (Option AObj)} {v : V} {bs : List Nat} (he : ∀ i, i < os.length → (os'[i]?).join = (os[i]?).join) (hl : os.length ≤ os'.length) (h : lookB (few os).look v = some bs) : lookB (few os').look v = some bs := by
  refine lookB_mono (fun i o ho => ?_) h
  obtain ⟨h1, o', h2, h3, rfl⟩ := look_some ho
  have h1 : i < os.length := h1
  refine look_of (by rw [few_next]; omega) ?_ (AObj.good_le (by rw [few_next, few_next]; exact hl) h3)
  rw [few_get, he i h1, ← few_get]
  exact h2
/-- Bytes as blocks. -/
def storedN : Nat → List Nat → List Nat
  | 0, bs => blkB 1 bs
  | k + 1, bs => if 65535 < bs.length then blkB 0 (bs.take 65535) ++ storedN k (bs.drop 65535) else blkB 1 bs
def storedB (bs : List Nat) : List Nat := storedN bs.length bs
theorem storedN_any : ∀ (k m : Nat) (bs : List Nat), bs.length ≤ 65535 * (k + 1) → bs.length ≤ 65535 * (m + 1) → storedN k bs = storedN m bs
  | 0, 0, bs, _, _ => rfl
  | 0, m + 1, bs, h, _ => by
    show blkB 1 bs = if 65535 < bs.length then _ else blkB 1 bs
    rw [if_neg (by omega)]
  | k + 1, 0, bs, _, h => by
    show (if 65535 < bs.length then _ else blkB 1 bs) = blkB 1 bs
    rw [if_neg (by omega)]
  | k + 1, m + 1, bs, h, h' => by
    show (if 65535 < bs.length then blkB 0 (bs.take 65535) ++ storedN k (bs.drop 65535) else blkB 1 bs) = (if 65535 < bs.length then blkB 0 (bs.take 65535) ++ storedN m (bs.drop 65535) else blkB 1 bs)
    rw [storedN_any k m (bs.drop 65535) (by rw [List.length_drop]; omega) (by rw [List.length_drop]; omega)]
theorem stored_more {bs : List Nat} (h : 65535 < bs.length) : storedB bs = blkB 0 (bs.take 65535) ++ storedB (bs.drop 65535) := by
  unfold storedB
  rw [storedN_any bs.length (bs.length + 1) bs (by omega) (by omega)]
  show (if 65535 < bs.length then blkB 0 (bs.take 65535) ++ storedN bs.length (bs.drop 65535) else blkB 1 bs) = _
  rw [if_pos h, storedN_any bs.length (bs.drop 65535).length (bs.drop 65535) (by rw [List.length_drop]; omega) (by omega)]
theorem stored_last {bs : List Nat} (h : bs.length ≤ 65535) : storedB bs = blkB 1 bs := by
  unfold storedB
  rw [storedN_any bs.length 0 bs (by omega) (by omega)]
  rfl
theorem stored_len : ∀ (k : Nat) (bs : List Nat), bs.length ≤ k → (storedB bs).length ≤ 6 * bs.length + 5
  | k, bs, hk => by
    rcases Nat.lt_or_ge 65535 bs.length with h | h
    · cases k with
      | zero => omega
      | succ k =>
        have ih := stored_len k (bs.drop 65535) (by rw [List.length_drop]; omega)
        rw [stored_more h, List.length_append]
        have : (blkB 0 (bs.take 65535)).length = 65540 := by simp [blkB, blkH]; omega
        rw [List.length_drop] at ih
        omega
    · rw [stored_last h]
      simp [blkB, blkH]
      omega
/-- Bytes of one's own so far: none, or all of an object. -/
def OutAt (os : List (Option AObj)) (N : Nat) (v : V) (d : List Nat) : Prop := (d = [] ∧ v = .slice none 0 0 0 true) ∨ ∃ q, (N ≤ q ∧ d ≠ []) ∧ v = .slice (some (q, 0)) 1 d.length d.length false ∧ (os[q]?).join = some (newBytes d)
theorem OutAt.plain {os : List (Option AObj)} {N : Nat} {v : V} {d : List Nat} (h : OutAt os N v d) : v.plain = true := by
  rcases h with ⟨_, rfl⟩ | ⟨q, _, rfl, _⟩ <;> rfl
theorem keep_app' {os l : List (Option AObj)} {i : Nat} {o : AObj} (ho : (os[i]?).join = some o) : ((os ++ l)[i]?).join = some o := by rw [join_app (join_lt ho)]; exact ho
theorem OutAt.app {os l : List (Option AObj)} {N : Nat} {v : V} {d : List Nat} (h : OutAt os N v d) : OutAt (os ++ l) N v d := by
  rcases h with h | ⟨q, h1, h2, h3⟩
  · exact .inl h
  · exact .inr ⟨q, h1, h2, keep_app' h3⟩
/-- Bytes joined to those. -/
theorem OutAt.grow {os : List (Option AObj)} {N : Nat} {v : V} {d nb : List Nat} (h : OutAt os N v d) (hN : N ≤ os.length) (hs : d.length + nb.length < 70368744177664) :
    ∃ v' os', appendV (few os) 1 1 v (some nb.length) (some (bytesV nb)) = some (v', few os') ∧ OutAt os' N v' (d ++ nb) ∧ (∀ i, i < N → (os'[i]?).join = (os[i]?).join) ∧ os.length ≤ os'.length := by
  rcases h with ⟨rfl, rfl⟩ | ⟨q, h1, rfl, h3⟩
  · cases nb with
    | nil => exact ⟨_, os, rfl, .inl ⟨rfl, rfl⟩, fun _ _ => rfl, Nat.le_refl _⟩
    | cons b nb =>
      refine ⟨_, os ++ [some (newBytes (b :: nb))], ?_, .inr ⟨os.length, ⟨hN, by simp⟩, rfl, ?_⟩, fun i hi => ?_, ?_⟩
      · show appendV (few os) 1 1 (.slice none 0 0 0 true) (some (nb.length + 1)) (some (bytesV (b :: nb))) = _
        rw [grow_none, if_pos (by rw [bytesV_len]; simp at hs ⊢; omega)]
        rfl
      · simp
      · rw [join_app (by omega)]
      · simp
  · obtain ⟨p', os', g, G⟩ := growB h3 hs
    refine ⟨_, os', g, .inr ⟨p', ⟨?_, by simp [h1.2]⟩, by rw [List.length_append], G.at'⟩, fun i hi => G.old i (by omega) (by omega), G.len⟩
    rcases G.new with h | h <;> omega
/-- Parts of bytes that are seen. -/
theorem lookB_part {os : List (Option AObj)} {v : V} {bs : List Nat} (h : lookB (few os).look v = some bs) (hne : bs ≠ []) :
    ∃ i o c f, v = .slice (some (i, o)) 1 bs.length c f ∧ bs.length ≤ c ∧ i < os.length ∧ ∀ k m c' f', k + m ≤ bs.length → m ≤ c' → lookB (few os).look (.slice (some (i, o + k)) 1 m c' f') = some ((bs.drop k).take m) := by
  have hb := bytesAt_lt (lookB_at h)
  obtain ⟨i, o, c, f, own, cs, rfl, h1, h2, h3, h4⟩ := bytesAt_place (lookB_at h) hne
  have hl : ∃ x, (few os).look i = some x := by
    cases hx : (few os).look i with
    | some x => exact ⟨x, rfl⟩
    | none =>
      exfalso
      have h : (if bs.length ≤ c then match (few os).look i with | some (.cells _ cs) => (match cut o bs.length cs with | some x => bytesL x | none => none) | _ => none else none) = some bs := h
      rw [if_pos h1, hx] at h
      cases h
  obtain ⟨x, hx⟩ := hl
  obtain ⟨g1, o', g2, g3, rfl⟩ := look_some hx
  rw [h2] at g2
  cases g2
  refine ⟨i, o, c, f, rfl, h1, g1, fun k m c' f' hk hm => ?_⟩
  refine lookB_of g1 h2 g3 hm (by omega) ?_ (fun b hb' => hb b (List.mem_of_mem_drop (List.mem_of_mem_take hb')))
  rw [← bytesV_take, ← bytesV_drop, ← h4, List.drop_take, List.take_take, List.drop_drop, Nat.min_eq_left (by omega)]
theorem slice_loF {a : Option (Nat × Nat)} {e n c : Nat} {f : Bool} {k : IntKind} {l : Int} (h0 : 0 ≤ l) (h1 : l ≤ n) (h3 : l < c) : sliceOp (.slice e) (.slice a e n c f) (some (.int k l)) none none = some (.slice (shiftA a (l.toNat * e)) e (n - l.toNat) (c - l.toNat) f) := by
  have hb : Nat.beq c l.toNat = false := by
    cases hq : Nat.beq c l.toNat with
    | false => rfl
    | true => rw [Nat.beq_eq] at hq; omega
  simp only [sliceOp, bound, natOf_int h0, Nat.beq_refl, Bool.true_or, sel_true, ble_t (show l.toNat ≤ n by omega), Option.isSome_none, Bool.or_false, hb, Bool.false_and, sel_false]
theorem Stored_run {call : CallT} {lf nB : Nat} (hB : BlockF call nB) {os : List (Option AObj)} {v : V} {bs : List Nat} (hg : v.good os.length = true) (h : lookB (few os).look v = some bs) (hlf : bs.length < lf) (hs : 6 * bs.length + 100000 < 70368744177664) :
    ∃ w os', enterF call lf [v] (few os) (Stored_c nB) = some (w, few os') ∧ OutAt os' os.length w (storedB bs) ∧ (∀ i, i < os.length → (os'[i]?).join = (os[i]?).join) ∧ os.length ≤ os'.length := by
  have main := enter_wp (call := call) (lf := lf) (n := 18) (args := [v]) (st := few os) (K := fun w st => ∃ os', st = few os' ∧ OutAt os' os.length w (storedB bs) ∧ (∀ i, i < os.length → (os'[i]?).join = (os[i]?).join) ∧ os.length ≤ os'.length) (c := (Stored_c nB).code) (rs := (Stored_c nB).results) ?_
  · obtain ⟨w, st', h1, os', rfl, h2⟩ := main
    exact ⟨w, os', h1, h2⟩
  · unfold Stored_c
    dsimp only
    have htot := stored_len bs.length bs (Nat.le_refl _)
    simp
    refine wp_loop (fun k s st => ∃ os' cur d, st = few os' ∧ k = cur.length ∧ (s .h).good os.length = true ∧ lookB (few os).look (s .h) = some cur ∧ storedB bs = d ++ storedB cur ∧ OutAt os' os.length (s (.o (.o .h))) d ∧ (∀ i, i < os.length → (os'[i]?).join = (os[i]?).join) ∧ os.length ≤ os'.length) bs.length ?_ hlf ?_
    · exact ⟨os, bs, [], rfl, rfl, by simpa using hg, by simpa using h, rfl, .inl ⟨rfl, by simp⟩, fun _ _ => rfl, Nat.le_refl _⟩
    · rintro k s st ⟨os', cur, d, rfl, rfl, s1, s2, hd, s3, hold, hle⟩
      obtain ⟨x, hx⟩ : ∃ x, s .h = x := ⟨_, rfl⟩
      obtain ⟨y, hy⟩ : ∃ y, s (.o (.o .h)) = y := ⟨_, rfl⟩
      rw [hx] at s1 s2
      rw [hy] at s3
      have s2' := look_keep hold hle s2
      have hlen := len_bytes (st' := few os') (lookB_at s2')
      have hdl : d.length + (storedB cur).length ≤ 6 * bs.length + 5 := by rw [← List.length_append, ← hd]; exact htot
      rcases Nat.lt_or_ge 65535 cur.length with hbig | hsmall
      · have hne : cur ≠ [] := by intro e; rw [e] at hbig; simp at hbig
        obtain ⟨i, o, c, f, rfl, hc, hi, hpart⟩ := lookB_part s2 hne
        obtain ⟨n, hn⟩ : ∃ n, n = cur.length := ⟨_, rfl⟩
        have hfirst := look_keep hold hle (hpart 0 65535 c f (by omega) (by omega))
        have hrest := hpart 65535 (n - 65535) (c - 65535) f (by omega) (by omega)
        rw [List.drop_zero] at hfirst
        rw [List.take_of_length_le (by rw [List.length_drop]; omega)] at hrest
        have hfl : (cur.take 65535).length = 65535 := by rw [List.length_take]; omega
        obtain ⟨l, hcall⟩ := hB os' (.slice (some (i, o + 0)) 1 65535 c f) (cur.take 65535) 0 (by simp only [V.good, Nat.blt_eq]; omega) hfirst (by omega) (by omega)
        rw [hfl] at hcall
        have hbl : (blkB 0 (cur.take 65535)).length = 65540 := by simp [blkB, blkH]; omega
        obtain ⟨B, hBe⟩ : ∃ B, B = os' ++ l ++ [some (newBytes (blkB 0 (cur.take 65535)))] := ⟨_, rfl⟩
        rw [← hBe] at hcall
        have hBo : ∀ j, j < os'.length → (B[j]?).join = (os'[j]?).join := fun j hj => by rw [hBe, List.append_assoc, join_app hj]
        have hBl : B.length = os'.length + l.length + 1 := by rw [hBe]; simp; omega
        have hBp : (B[os'.length + l.length]?).join = some (newBytes (blkB 0 (cur.take 65535))) := by
          rw [hBe, show os'.length + l.length = (os' ++ l).length from by simp]
          simp
        have hfb : firstN (few B) 1 65540 (.slice (some (os'.length + l.length, 0)) 1 65540 65540 false) = some (bytesV (blkB 0 (cur.take 65535))) := by
          show sel (Nat.beq 1 1 && Nat.ble 65540 65540) ((few B).loadN _ _ (65540 * 1)) none = _
          rw [loadN_few hBp (by rw [bytesV_len]; omega), List.drop_zero, List.take_of_length_le (by rw [bytesV_len]; omega)]
          rfl
        have s3B : OutAt B os.length y d := by
          rw [hBe, List.append_assoc]
          exact s3.app
        rw [stored_more hbig, List.length_append, hbl] at hdl
        obtain ⟨v', os2, g1, g2, g3, g4⟩ := s3B.grow (nb := blkB 0 (cur.take 65535)) (by omega) (by rw [hbl]; omega)
        rw [hbl] at g1
        have hsl1 : sliceOp (.slice 1) (.slice (some (i, o)) 1 n c f) none (some (.int .i64 65535)) none = some (.slice (some (i, o + 0)) 1 65535 c f) := slice_hiF (by decide) (by omega) (by omega)
        have hsl2 : sliceOp (.slice 1) (.slice (some (i, o)) 1 n c f) (some (.int .i64 65535)) none none = some (.slice (some (i, o + 65535)) 1 (n - 65535) (c - 65535) f) := slice_loF (by decide) (by omega) (by omega)
        rw [← hn] at hx hlen hbig
        have hcall : call nB [.slice (some (i, o)) 1 65535 c f, .int .u8 0] (few os') = some (.slice (some (os'.length + l.length, 0)) 1 65540 65540 false, few B) := hcall
        have hsl1 : sliceOp (.slice 1) (.slice (some (i, o)) 1 n c f) none (some (.int .i64 65535)) none = some (.slice (some (i, o)) 1 65535 c f) := hsl1
        simp (disch := omega) [hx, hy, hlen, dlt_t, hsl1, hcall, lenOf, firstNo, hfb, g1, hsl2]
        refine ⟨(cur.drop 65535).length, by rw [List.length_drop]; omega, os2, rfl, cur.drop 65535, rfl, ?_, ?_, d ++ blkB 0 (cur.take 65535), ?_, g2, fun j hj => ?_, by omega⟩
        · simp only [V.good, Nat.blt_eq]; omega
        · rw [hn] at hrest ⊢
          exact hrest
        · rw [hd, stored_more (bs := cur) (by omega), List.append_assoc]
        · rw [g3 j (by omega), hBo j (by omega), hold j hj]
      · obtain ⟨l, hcall⟩ := hB os' x cur 1 (V.good_le hle s1) s2' hsmall (by omega)
        rw [stored_last hsmall] at hd hdl
        have hbl : (blkB 1 cur).length = cur.length + 5 := by simp [blkB, blkH]
        obtain ⟨n, hn⟩ : ∃ n, n = cur.length := ⟨_, rfl⟩
        obtain ⟨B, hBe⟩ : ∃ B, B = os' ++ l ++ [some (newBytes (blkB 1 cur))] := ⟨_, rfl⟩
        rw [← hBe] at hcall
        have hBo : ∀ j, j < os'.length → (B[j]?).join = (os'[j]?).join := fun j hj => by rw [hBe, List.append_assoc, join_app hj]
        have hBl : B.length = os'.length + l.length + 1 := by rw [hBe]; simp; omega
        have hBp : (B[os'.length + l.length]?).join = some (newBytes (blkB 1 cur)) := by
          rw [hBe, show os'.length + l.length = (os' ++ l).length from by simp]
          simp
        have hfb : firstN (few B) 1 (n + 5) (.slice (some (os'.length + l.length, 0)) 1 (n + 5) (n + 5) false) = some (bytesV (blkB 1 cur)) := by
          show sel (Nat.beq 1 1 && Nat.ble (n + 5) (n + 5)) ((few B).loadN _ _ ((n + 5) * 1)) none = _
          rw [loadN_few hBp (by rw [bytesV_len]; omega), List.drop_zero, List.take_of_length_le (by rw [bytesV_len]; omega), ble_t (Nat.le_refl _)]
          rfl
        have s3B : OutAt B os.length y d := by
          rw [hBe, List.append_assoc]
          exact s3.app
        rw [hbl] at hdl
        obtain ⟨v', os2, g1, g2, g3, g4⟩ := s3B.grow (nb := blkB 1 cur) (by omega) (by rw [hbl]; omega)
        rw [hbl] at g1
        rw [← hn] at hlen hsmall hcall g1
        have hcall : call nB [x, .int .u8 1] (few os') = some (.slice (some (os'.length + l.length, 0)) 1 (n + 5) (n + 5) false, few B) := hcall
        simp (disch := omega) [hx, hy, hlen, dlt_f, hcall, lenOf, firstNo, hfb, g1, g2.plain]
        refine ⟨os2, rfl, ?_, fun j hj => ?_, by omega⟩
        · rw [hd]; exact g2
        · rw [g3 j (by omega), hBo j (by omega), hold j hj]

end Go.Vabs.Si
