/-
  Several slices of bytes joined (slices.Concat).
-/
import Derived.Test.YtpbafimkplhknaaVabsSg
namespace Go.Vabs.Sh
set_option linter.unusedVariables false
set_option linter.unusedSimpArgs false
set_option maxRecDepth 10000
def Grow_c : AFunc := AFunc.mk 27 (.seq (.reg [AOper.mk (some (.i (.o .h))) (.mv (.c (.slice none 0 0 0 true))) none]) (.seq (.seq (.reg [AOper.mk (some (.i (.i .h))) (.bin .lss (.val .int) (.t (.o .h)) (.c (.int .i64 (.ofNat 0)))) none]) (.cond (.t (.i (.i .h))) (.reg [AOper.mk (some (.o (.o (.o .h)))) .fail none, AOper.mk none .fail none]) .skip)) (.seq (.seq (.reg [AOper.mk (some (.i (.i (.o .h)))) (.capOf (.t .h)) none, AOper.mk (some (.i (.o (.i .h)))) (.len .slice (.t .h)) none, AOper.mk (some (.o (.i (.i .h)))) (.bin .sub (.val .int) (.t (.i (.i (.o .h)))) (.t (.i (.o (.i .h))))) none, AOper.mk (some (.i (.i (.i .h)))) (.bin .sub (.val .int) (.t (.o .h)) (.t (.o (.i (.i .h))))) none, AOper.mk (some (.o .h)) (.mv (.t (.i (.i (.i .h))))) none]) (.seq (.reg [AOper.mk (some (.i (.o (.o (.o .h))))) (.bin .gtr (.val .int) (.t (.o .h)) (.c (.int .i64 (.ofNat 0)))) none]) (.cond (.t (.i (.o (.o (.o .h))))) (.reg [AOper.mk (some (.o (.o (.i (.o .h))))) (.capOf (.t .h)) none, AOper.mk (some (.i (.o (.i (.o .h))))) (.slice (.slice 1) (.t .h) none (some (.t (.o (.o (.i (.o .h)))))) none) none, AOper.mk (some (.i (.i (.i (.o .h))))) (.appendZ 1 1 [.int .u8 (.ofNat 0)] (.t (.i (.o (.i (.o .h))))) (.t (.o .h))) none, AOper.mk (some (.i (.o (.o (.i .h))))) (.len .slice (.t .h)) none, AOper.mk (some (.o (.i (.o (.i .h))))) (.slice (.slice 1) (.t (.i (.i (.i (.o .h))))) none (some (.t (.i (.o (.o (.i .h)))))) none) none, AOper.mk (some .h) (.mv (.t (.o (.i (.o (.i .h)))))) none]) .skip))) (.seq (.reg [AOper.mk (some (.i (.o .h))) (.mv (.t .h)) none]) .ret)))) [.tmp (.i (.o .h))]
attribute [local simp] wp_skip wp_ret wp_exit wp_reg wp_seq wp_cond wp_block thenQ_normal thenQ_ret thenQ_exit blockQ_normal blockQ_ret blockQ_exit wpCond_true wpCond_false wpOps_nil wpVal_some wpGuard_true wpGuard_false wpOps_guard wpOps_cons
  put_at put_no ev_c ev_slot posEq_h posEq_o posEq_i posEq_ho posEq_hi posEq_oh posEq_ih posEq_oi posEq_io sel_true sel_false
  okv_some step_mv step_call step_pick pickV_bool step_bin bin_add bin_sub bin_mul bin_eql bin_neq bin_lss bin_leq bin_gtr bin_geq bin_eqb bin_neb bin_eqs bin_nes step_un un_not un_neg step_len len_slice len_str len_const step_extract extractV nth step_convInt conv_int step_convStr step_slice step_idxAddr natOf_nat step_load step_index step_field step_fieldAddr step_build step_minmax
  step_alloc step_bslice bsliceV_some newV_some step_store step_append boolIs_b boolIs_t finQ_ret finQ_normal ressE_nil ressE_cons resE_tmp consO_some initE_nil initE_cons pos_0 pos_1 pos_2 pos_3 pos_4 pos_5 pos_6 pos_7 pos_8 plain_bool plain_int plain_str plain_ptr plain_slice plain_map plain_agg plain_func plain_nilFunc V.undef oneOf_one oneOf_two ble_self
open Go.Vabs.Pk Go.Vabs.Ph Go.Vabs.Sa Go.Vabs.Sb Go.Vabs.Sc Go.Vabs.Sg
attribute [local simp] fieldAddrV natOf_zero step_appendZ
/-- Bytes of several slices. -/
noncomputable def lookBs (l : Sight) : List V → Option (List (List Nat))
  | [] => some []
  | v :: vs => match lookB l v, lookBs l vs with | some b, some bs => some (b :: bs) | _, _ => none
noncomputable def lookSL (l : Sight) : V → Option (List (List Nat))
  | .slice (some (i, o)) 1 n c _ => if n ≤ c then match l i with | some (.cells _ cs) => (match cut o n cs with | some vs => if vs.length = n then lookBs l vs else none | none => none) | _ => none else none
  | .slice none _ 0 0 _ => some []
  | _ => none
theorem takeN_cut : ∀ {n : Nat} {l r : List V}, takeN n l = some r → l.take n = r ∧ (n = 0 ∨ n ≤ l.length)
  | 0, l, r, h => by cases h; exact ⟨rfl, .inl rfl⟩
  | n + 1, [], r, h => by cases h
  | n + 1, x :: l, r, h => by
    have h : (match takeN n l with | some r => some (x :: r) | none => none) = some r := h
    split at h
    · rename_i r' hr
      cases h
      obtain ⟨h1, h2⟩ := takeN_cut hr
      exact ⟨by rw [List.take_succ_cons, h1], .inr (by simp; omega)⟩
    · cases h
theorem cut_take : ∀ {o n : Nat} {l r : List V}, cut o n l = some r → 0 < n → (l.drop o).take n = r ∧ o + n ≤ l.length
  | 0, n, l, r, h, hn => by
    have h : takeN n l = some r := by cases n <;> exact h
    obtain ⟨h1, h2⟩ := takeN_cut h
    exact ⟨h1, by omega⟩
  | o + 1, 0, l, r, h, hn => by omega
  | o + 1, n + 1, [], r, h, hn => by cases h
  | o + 1, n + 1, x :: l, r, h, hn => by
    have h : cut o (n + 1) l = some r := h
    obtain ⟨h1, h2⟩ := cut_take h (by omega)
    exact ⟨h1, by simp; omega⟩
theorem first_bytes {st : St} {v : V} {bs : List Nat} (h : bytesAt st v = some bs) : lenOf v = some bs.length ∧ firstN st 1 bs.length v = some (bytesV bs) := by
  by_cases hne : bs = []
  · subst hne
    have hl := len_bytes (st' := st) h
    cases v with
    | slice a e n c f =>
      have hn : n = 0 := by
        have : (n : Int) = 0 := by
          have hl : some (V.int .i64 (n : Int)) = some (V.int .i64 ((0 : Nat) : Int)) := hl
          simpa using hl
        omega
      subst hn
      refine ⟨rfl, ?_⟩
      cases a with
      | none => rfl
      | some p =>
        obtain ⟨i, o⟩ := p
        unfold bytesAt at h
        split at h
        · rename_i h1; cases h1
        · rename_i i o n c f h1
          cases h1
          split at h
          · split at h
            · rename_i own cs hg
              show sel (Nat.beq 1 1 && Nat.ble 0 0) (st.loadN _ _ (0 * 1)) none = _
              unfold St.loadN
              rw [hg, Nat.zero_mul]
              have : ∀ (o : Nat) (cs : List V), cut o 0 cs = some [] := fun o cs => by cases o <;> rfl
              dsimp only
              rw [this]
              rfl
            · cases h
          · cases h
        · cases h
    | _ => cases hl
  · obtain ⟨i, o, c, f, own, cs, rfl, hnc, hg, hm, hcs⟩ := bytesAt_place h hne
    refine ⟨rfl, ?_⟩
    show sel (Nat.beq 1 1 && Nat.ble bs.length bs.length) (st.loadN i o (bs.length * 1)) none = _
    unfold St.loadN
    rw [hg]
    dsimp only
    rw [cut_of (by omega), Nat.mul_one, hcs, ble_t (Nat.le_refl _)]
    rfl
def sumT (bss : List (List Nat)) (i : Nat) : Nat := (bss.take i).flatten.length
noncomputable def capV : V → Option V
  | .slice _ _ _ c true => some (.int .i64 (.ofNat c))
  | _ => none
theorem step_capOf {call : CallT} {s : Env} {st : St} {x : Src} : stepE call (.capOf x) s st = okv (capV (s.ev x)) st := by
  refine step_of ?_
  show ex_capOf x s.ev st = _
  unfold ex_capOf capV
  generalize s.ev x = u
  cases u <;> try rfl
  rename_i a e n c f
  cases f <;> rfl
attribute [local simp] step_capOf
/-- Room for so many bytes. -/
theorem Grow_run {call : CallT} {lf : Nat} {os : List (Option AObj)} {t : Nat} (ht : t ≤ 70368744177664) :
    enterF call lf [.slice none 0 0 0 true, .int .i64 (t : Int)] (few os) Grow_c = some (if t = 0 then (.slice none 0 0 0 true, few os) else (.slice (some (os.length, 0)) 1 0 t false, few (os ++ [some (newBytes (List.replicate t 0))]))) := by
  have hsl : sliceOp (.slice 1) (.slice none 0 0 0 true) none (some (.int .i64 0)) none = some (.slice none 1 0 0 true) := rfl
  have hcap : capV (.slice none 0 0 0 true) = some (.int .i64 0) := rfl
  split
  · rename_i h0
    subst h0
    refine enter_eq ?_
    simp (disch := omega) [hcap, wrap_i]
  · rename_i h0
    obtain ⟨m, rfl⟩ : ∃ m, t = m + 1 := ⟨t - 1, by omega⟩
    obtain ⟨u, hu⟩ : ∃ u, u = m + 1 := ⟨_, rfl⟩
    rw [← hu]
    have hrep : repN u [V.int .u8 0] = bytesV (List.replicate u 0) := repN_zero u
    have hgr : appendV (few os) 1 1 (.slice none 1 0 0 true) (some u) (some (bytesV (List.replicate u 0))) = some (.slice (some (os.length, 0)) 1 u u false, few (os ++ [some (newBytes (List.replicate u 0))])) := by
      rw [hu]
      rw [grow_none, if_pos (by rw [bytesV_len]; simp; omega)]
      rfl
    have hsh : sliceOp (.slice 1) (.slice (some (os.length, 0)) 1 u u false) none (some (.int .i64 0)) none = some (.slice (some (os.length, 0)) 1 0 u false) := by
      rw [slice_hiF (by omega) (by omega) (by omega)]; rfl
    have hpos : 0 < u := by omega
    refine enter_eq ?_
    simp (disch := omega) [hcap, wrap_i, dlt_f, dlt_t, hpos, hsl, natOf_nat, hrep, hgr, hsh]

def GrowF (call : CallT) (g : Nat) : Prop := ∀ (os : List (Option AObj)) (t : Nat), t ≤ 70368744177664 → call g [.slice none 0 0 0 true, .int .i64 (t : Int)] (few os) = some (if t = 0 then (.slice none 0 0 0 true, few os) else (.slice (some (os.length, 0)) 1 0 t false, few (os ++ [some (newBytes (List.replicate t 0))])))
theorem GrowF.code {base : CallT} {g lf : Nat} : GrowF (Vabs.withF base g lf Grow_c) g := fun os t h => by rw [withF_same]; exact Grow_run h
theorem GrowF.withF {call : CallT} {n g lf : Nat} {fn : AFunc} (h : GrowF call n) (hne : n ≠ g) : GrowF (Vabs.withF call g lf fn) n := fun os t ht => by rw [withF_other hne]; exact h os t ht
theorem GrowF.other {call : CallT} {n g : Nat} {l : List V → St → Option (V × St)} (h : GrowF call n) (hne : n ≠ g) : GrowF (withL call g l) n := fun os t ht => by rw [withL_other hne]; exact h os t ht
/-- A slice of slices in memory. -/
structure SLat (os : List (Option AObj)) (v : V) (bss : List (List Nat)) : Prop where
  len : lenV (few os) .slice v = some (.int .i64 (bss.length : Int))
  at_ : ∀ k, k < bss.length → ∃ i o c f own cs w, v = .slice (some (i, o)) 1 bss.length c f ∧ (os[i]?).join = some (.cells own cs) ∧ cs[o + k]? = some w ∧ ∀ b, bss[k]? = some b → bytesAt (few os) w = some b
theorem SLat.grow {os os' : List (Option AObj)} {v : V} {bss : List (List Nat)} (h : SLat os v bss) (he : ∀ i, i < os.length → (os'[i]?).join = (os[i]?).join) : SLat os' v bss := by
  refine ⟨?_, fun k hk => ?_⟩
  · have := h.len
    cases v <;> first | exact this | cases this
  · obtain ⟨i, o, c, f, own, cs, w, h1, h2, h3, h4⟩ := h.at_ k hk
    exact ⟨i, o, c, f, own, cs, w, h1, by rw [he i (join_lt h2)]; exact h2, h3, fun b hb => bytesAt_grow (h4 b hb) he⟩
theorem sum_take {bss : List (List Nat)} {k : Nat} {b : List Nat} (h : bss[k]? = some b) : (bss.take (k + 1)).flatten = (bss.take k).flatten ++ b := by
  rw [List.take_add_one, h]
  simp
theorem sum_le {bss : List (List Nat)} (k : Nat) : (bss.take k).flatten.length ≤ bss.flatten.length := by
  conv => rhs; rw [← List.take_append_drop k bss, List.flatten_append, List.length_append]
  omega
/- THE LAW OF CONCAT -/
noncomputable def concatA (fl : List Nat) : Ans := if fl = [] then ([], fun _ => .slice none 0 0 0 true) else ([newBytes fl], fun k => .slice (some (k, 0)) 1 fl.length fl.length false)
def ConcatF (call : CallT) (g : Nat) : Prop := ∀ os v bss, v.good os.length = true → lookSL (few os).look v = some bss → bss.length ≤ 4096 → bss.flatten.length ≤ 70368744177664 → call g [v] (few os) = some ((concatA bss.flatten).2 os.length, few (os ++ (concatA bss.flatten).1.map some))
theorem ConcatF.other {call : CallT} {n g : Nat} {l : List V → St → Option (V × St)} (h : ConcatF call n) (hne : n ≠ g) : ConcatF (withL call g l) n := fun os v bs a b c d => by rw [withL_other hne]; exact h os v bs a b c d
theorem ConcatF.withF {call : CallT} {n g lf : Nat} {fn : AFunc} (h : ConcatF call n) (hne : n ≠ g) : ConcatF (Vabs.withF call g lf fn) n := fun os v bs a b c d => by rw [withF_other hne]; exact h os v bs a b c d

end Go.Vabs.Sh
