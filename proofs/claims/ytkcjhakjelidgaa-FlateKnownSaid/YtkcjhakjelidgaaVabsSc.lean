/-
  Bytes that grow, big-endian numbers, a font s tables.
-/
import Derived.Test.YtkcjhakjelidgaaVabsSa
namespace Go.Vabs.Sc
set_option linter.unusedVariables false
set_option linter.unusedSimpArgs false
set_option maxRecDepth 10000
attribute [local simp] wp_skip wp_ret wp_exit wp_reg wp_seq wp_cond wp_block thenQ_normal thenQ_ret thenQ_exit blockQ_normal blockQ_ret blockQ_exit wpCond_true wpCond_false wpOps_nil wpVal_some wpGuard_true wpGuard_false wpOps_guard wpOps_cons
  put_at put_no ev_c ev_slot posEq_h posEq_o posEq_i posEq_ho posEq_hi posEq_oh posEq_ih posEq_oi posEq_io sel_true sel_false
  okv_some step_mv step_call step_pick pickV_bool step_bin bin_add bin_sub bin_mul bin_eql bin_neq bin_lss bin_leq bin_gtr bin_geq bin_eqb bin_neb bin_eqs bin_nes step_un un_not un_neg step_len len_slice len_str len_const step_extract extractV nth step_convInt conv_int step_convStr step_slice step_idxAddr natOf_nat step_load step_index step_field step_fieldAddr step_build step_minmax
  step_alloc step_bslice bsliceV_some newV_some step_store step_append boolIs_b boolIs_t finQ_ret finQ_normal ressE_nil ressE_cons resE_tmp consO_some initE_nil initE_cons pos_0 pos_1 pos_2 pos_3 pos_4 pos_5 pos_6 pos_7 pos_8 plain_bool plain_int plain_str plain_ptr plain_slice plain_map plain_agg plain_func plain_nilFunc V.undef oneOf_one oneOf_two ble_self
open Go.Vabs.Pk Go.Vabs.Ph Go.Vabs.Sa Go.Vabs.Sb
attribute [local simp] step_nilchk nilchk_ptr step_mkmap step_lookup step_mapEntry step_entryStore step_box cells_int cells_bool cells_str cells_slice cells_ptr cells_agg few_alloc lawOut_nil lawOut_one fieldAddrV natOf_zero fill repN splice over newV
/- BYTES THAT GROW -/
/-- What an append to bytes of one's own leaves: the slice, the memory. -/
structure Grown (os os' : List (Option AObj)) (p p' : Nat) (bs : List Nat) : Prop where
  at' : (os'[p']?).join = some (newBytes bs)
  old : ∀ i, i < os.length → i ≠ p → (os'[i]?).join = (os[i]?).join
  new : p' = p ∨ os.length ≤ p'
  len : os.length ≤ os'.length
theorem growB {os : List (Option AObj)} {p : Nat} {bs nb : List Nat} (hp : (os[p]?).join = some (newBytes bs)) (hs : bs.length + nb.length < 70368744177664) :
    ∃ p' os', appendV (few os) 1 1 (.slice (some (p, 0)) 1 bs.length bs.length false) (some nb.length) (some (bytesV nb)) = some (.slice (some (p', 0)) 1 (bs.length + nb.length) (bs.length + nb.length) false, few os') ∧ Grown os os' p p' (bs ++ nb) := by
  cases nb with
  | nil => exact ⟨p, os, rfl, ⟨by rw [List.append_nil]; exact hp, fun _ _ _ => rfl, .inl rfl, Nat.le_refl _⟩⟩
  | cons b nb =>
    have ho : ownAt os p = some (bytesV bs) := by rw [ownAt_eq, hp]; rfl
    have hlt := join_lt hp
    refine ⟨os.length, os.set p none ++ [some (AObj.cells true (bytesV bs ++ bytesV (b :: nb)))], ?_, ⟨?_, fun i hi hne => ?_, .inr (Nat.le_refl _), ?_⟩⟩
    · show appendV (few os) 1 1 (.slice (some (p, 0)) 1 bs.length bs.length false) (some (nb.length + 1)) (some (bytesV (b :: nb))) = _
      rw [grow_some, ho, growC_some, if_pos (by simp only [bytesV_len, List.length_cons] at hs ⊢; omega)]
      rfl
    · show ((os.set p none ++ [some (AObj.cells true (bytesV bs ++ bytesV (b :: nb)))])[os.length]?).join = _
      rw [List.getElem?_append_right (by simp)]
      simp [newBytes, bytesV]
    · show ((os.set p none ++ [some (AObj.cells true (bytesV bs ++ bytesV (b :: nb)))])[i]?).join = _
      rw [join_app (by simpa using hi), join_set (fun e => hne e.symm)]
    · show os.length ≤ (os.set p none ++ [some (AObj.cells true (bytesV bs ++ bytesV (b :: nb)))]).length
      simp
theorem step_appendZ {call : CallT} {s : Env} {st : St} {e bytes : Nat} {zs : List V} {d n : Src} : stepE call (.appendZ e bytes zs d n) s st = (match natOf (s.ev n) with | some m => appendV st e bytes (s.ev d) (some m) (some (repN m zs)) | none => none) := by
  show (match ex_appendZ e bytes zs d n s.ev st with | some (.val v, st') => _ | some (.enter g args, st') => _ | none => _) = _
  unfold ex_appendZ appendV
  cases natOf (s.ev n) with
  | none => rfl
  | some m =>
    dsimp only
    rw [appendF_eq]
    cases h : appendOp st e bytes (s.ev d) m (repN m zs) with
    | none => rfl
    | some p =>
      obtain ⟨r, s1⟩ := p
      obtain ⟨v, rfl⟩ := appendOp_val h
      rfl
theorem repN_zero : ∀ (m : Nat), repN m [V.int .u8 (.ofNat 0)] = bytesV (List.replicate m 0)
  | 0 => rfl
  | m + 1 => by
    show [V.int .u8 (.ofNat 0)] ++ repN m [V.int .u8 (.ofNat 0)] = _
    rw [repN_zero m]
    rfl
/- BIG-ENDIAN -/
def bigB (n : Nat) : Nat → List Nat
  | 0 => []
  | z + 1 => n / 256 ^ z % 256 :: bigB n z
theorem shr_n {eq : EqKind} {a m : Nat} {x : Int} (hx : x = (m : Int)) (hm : m ≤ 63) : binV .shr eq (.int .i64 (a : Int)) (.int .u64 x) = some (.int .i64 ((a / 2 ^ m : Nat) : Int)) := by
  subst hx
  refine (bin_shr (n := m)).trans ?_
  rw [show Nat.ble m (bitsOf .i64) = true from ble_t (show m ≤ 64 by omega)]
  show some (V.int .i64 (Int.fdiv (a : Int) ((2 ^ m : Nat) : Int))) = _
  rw [show Int.fdiv (a : Int) ((2 ^ m : Nat) : Int) = ((a / 2 ^ m : Nat) : Int) from by rw [Int.fdiv_eq_ediv_of_nonneg _ (Int.natCast_nonneg _)]; rfl]
def BigF (call : CallT) (g : Nat) : Prop := ∀ os (n z : Nat), 0 < z → z ≤ 8 → call g [.int .i64 (n : Int), .int .i64 (z : Int)] (few os) = some (.slice (some (os.length, 0)) 1 z z false, few (os ++ [some (newBytes (bigB n z))]))
theorem BigF.other {call : CallT} {n g : Nat} {l : List V → St → Option (V × St)} (h : BigF call n) (hne : n ≠ g) : BigF (withL call g l) n := fun os a z h1 h2 => by rw [withL_other hne]; exact h os a z h1 h2
theorem BigF.withF {call : CallT} {n g lf : Nat} {fn : AFunc} (h : BigF call n) (hne : n ≠ g) : BigF (Vabs.withF call g lf fn) n := fun os a z h1 h2 => by rw [withF_other hne]; exact h os a z h1 h2
/- A FONT'S TABLES -/
def CloneN (call : CallT) (g : Nat) : Prop := ∀ st, call g [.slice none 0 0 0 true] st = some (.slice none 0 0 0 true, st)
theorem CloneN.code {base : CallT} {g lf : Nat} : CloneN (Vabs.withF base g lf Clone_c) g := fun st => by
  rw [withF_same]
  refine enter_eq ?_
  simp [bin_eqnil2]
theorem CloneN.withF {call : CallT} {n g lf : Nat} {fn : AFunc} (h : CloneN call n) (hne : n ≠ g) : CloneN (Vabs.withF call g lf fn) n := fun st => by rw [withF_other hne]; exact h st
theorem CloneN.other {call : CallT} {n g : Nat} {l : List V → St → Option (V × St)} (h : CloneN call n) (hne : n ≠ g) : CloneN (withL call g l) n := fun st => by rw [withL_other hne]; exact h st
end Go.Vabs.Sc

namespace Go.Vabs.Sg
set_option linter.unusedVariables false
set_option linter.unusedSimpArgs false
set_option maxRecDepth 10000
def RTable_c : AFunc := AFunc.mk 32 (.seq (.reg [AOper.mk (some (.i (.o .h))) (.mv (.c (.slice none 0 0 0 true))) none, AOper.mk (some (.o (.i .h))) (.mv (.c (.bool false))) none]) (.seq (.seq (.reg [AOper.mk (some (.i (.i .h))) (.mv (.c (.int .i64 (.ofNat 0)))) none]) (.block 0 (.loop (.seq (.seq (.reg [AOper.mk (some (.o (.i (.o .h)))) (.nilchk (.t .h)) none, AOper.mk (some (.i (.i (.o .h)))) (.fieldAddr 0 (.t (.o (.i (.o .h))))) none, AOper.mk (some (.o (.o (.i .h)))) (.load false 1 (.t (.i (.i (.o .h))))) none, AOper.mk (some (.i (.o (.i .h)))) (.len .slice (.t (.o (.o (.i .h))))) none, AOper.mk (some (.o (.i (.i .h)))) (.bin .lss (.val .int) (.t (.i (.i .h))) (.t (.i (.o (.i .h))))) none]) (.cond (.t (.o (.i (.i .h)))) .skip (.exit 0))) (.seq (.block 1 (.seq (.reg [AOper.mk (some (.o (.i (.o (.o .h))))) (.nilchk (.t .h)) none, AOper.mk (some (.i (.i (.o (.o .h))))) (.fieldAddr 0 (.t (.o (.i (.o (.o .h)))))) none, AOper.mk (some (.o (.o (.i (.o .h))))) (.load false 1 (.t (.i (.i (.o (.o .h)))))) none, AOper.mk (some (.o (.i (.i (.o .h))))) (.idxAddr (.slice 1) (.t (.o (.o (.i (.o .h))))) (.t (.i (.i .h)))) none, AOper.mk (some (.i (.i (.i (.o .h))))) (.load false 1 (.t (.o (.i (.i (.o .h)))))) none, AOper.mk (some (.i (.o (.o (.i .h))))) (.bin .eql (.val .str) (.t (.i (.i (.i (.o .h))))) (.t (.o .h))) none]) (.cond (.t (.i (.o (.o (.i .h))))) (.seq (.reg [AOper.mk (some (.i (.i (.o (.i .h))))) (.nilchk (.t .h)) none, AOper.mk (some (.o (.o (.i (.i .h))))) (.fieldAddr 1 (.t (.i (.i (.o (.i .h)))))) none, AOper.mk (some (.i (.o (.i (.i .h))))) (.load false 1 (.t (.o (.o (.i (.i .h)))))) none, AOper.mk (some (.i (.i (.i (.i .h))))) (.idxAddr (.slice 1) (.t (.i (.o (.i (.i .h))))) (.t (.i (.i .h)))) none, AOper.mk (some (.o (.o (.o (.o (.o .h)))))) (.load false 1 (.t (.i (.i (.i (.i .h)))))) none, AOper.mk (some (.i (.o .h))) (.mv (.t (.o (.o (.o (.o (.o .h))))))) none, AOper.mk (some (.o (.i .h))) (.mv (.c (.bool true))) none]) .ret) .skip))) (.reg [AOper.mk (some (.o (.o (.o (.o .h))))) (.bin .add (.val .int) (.t (.i (.i .h))) (.c (.int .i64 (.ofNat 1)))) none, AOper.mk (some (.i (.i .h))) (.mv (.t (.o (.o (.o (.o .h)))))) none])))))) (.seq (.reg [AOper.mk (some (.i (.o .h))) (.mv (.c (.slice none 0 0 0 true))) none, AOper.mk (some (.o (.i .h))) (.mv (.c (.bool false))) none]) .ret))) [.tmp (.i (.o .h)), .tmp (.o (.i .h))]
attribute [local simp] wp_skip wp_ret wp_exit wp_reg wp_seq wp_cond wp_block thenQ_normal thenQ_ret thenQ_exit blockQ_normal blockQ_ret blockQ_exit wpCond_true wpCond_false wpOps_nil wpVal_some wpGuard_true wpGuard_false wpOps_guard wpOps_cons
  put_at put_no ev_c ev_slot posEq_h posEq_o posEq_i posEq_ho posEq_hi posEq_oh posEq_ih posEq_oi posEq_io sel_true sel_false
  okv_some step_mv step_call step_pick pickV_bool step_bin bin_add bin_sub bin_mul bin_eql bin_neq bin_lss bin_leq bin_gtr bin_geq bin_eqb bin_neb bin_eqs bin_nes step_un un_not un_neg step_len len_slice len_str len_const step_extract extractV nth step_convInt conv_int step_convStr step_slice step_idxAddr natOf_nat step_load step_index step_field step_fieldAddr step_build step_minmax
  step_alloc step_bslice bsliceV_some newV_some step_store step_append boolIs_b boolIs_t finQ_ret finQ_normal ressE_nil ressE_cons resE_tmp consO_some initE_nil initE_cons pos_0 pos_1 pos_2 pos_3 pos_4 pos_5 pos_6 pos_7 pos_8 plain_bool plain_int plain_str plain_ptr plain_slice plain_map plain_agg plain_func plain_nilFunc V.undef oneOf_one oneOf_two ble_self
open Go.Vabs.Pk Go.Vabs.Ph Go.Vabs.Sa Go.Vabs.Sb Go.Vabs.Sc
attribute [local simp] step_nilchk nilchk_ptr step_box cells_int cells_bool cells_str cells_slice cells_ptr cells_agg few_alloc lawOut_nil lawOut_one
  wp_dreg wpDs_nil wpDs_cons wantedE_none wantedE_some wpDGuard_true wpDGuard_lim wpDGuard_false wpDLim_true wpDVal_free wpDVal_lim back_limited next_limited limF_dir foot_load foot_store foot_bslice foot_append foot_convStr
  foot_box foot_call foot_alloc okAll_nil okAll_cons pastsOf nthP ahead alloc_dir backv back_back back_few next_back few_next load_limited convStr_limited okPair_dd okPair_dc okPair_cd okPair_cc anyIn_nil anyIn_same anyIn_cons meets_nil meets_nil' meets_cons mem_nil mem_cons nbeq_dec blt_dec ble_dec fieldAddrV natOf_zero
/-- What a look for a tag among tags answers. -/
def lookT (t : List Nat) : List (List Nat) → List V → V
  | x :: ts, v :: vs => if x = t then .tuple [v, .bool true] else lookT t ts vs
  | _, _ => .tuple [.slice none 0 0 0 true, .bool false]
theorem lookT_drop {t : List Nat} {ts : List (List Nat)} {vs : List V} {k : Nat} {x : List Nat} {v : V} (h : ts[k]? = some x) (h' : vs[k]? = some v) : lookT t (ts.drop k) (vs.drop k) = if x = t then .tuple [v, .bool true] else lookT t (ts.drop (k + 1)) (vs.drop (k + 1)) := by
  obtain ⟨hk, he⟩ := List.getElem?_eq_some_iff.1 h
  obtain ⟨hk', he'⟩ := List.getElem?_eq_some_iff.1 h'
  rw [List.drop_eq_getElem_cons hk, he, List.drop_eq_getElem_cons hk', he']
  rfl
/-- A font of the reference in memory: its tags, its tables' slices. -/
structure RAt (os : List (Option AObj)) (F q r : Nat) (ts : List (List Nat)) (vs : List V) : Prop where
  font : ∃ o, (os[F]?).join = some (.cells o [tagsV q ts.length, tagsV r ts.length])
  tags : ts ≠ [] → ∃ o, (os[q]?).join = some (.cells o (strsV ts))
  tabs : ts ≠ [] → ∃ o, (os[r]?).join = some (.cells o vs)
  len : vs.length = ts.length
  plain : ∀ v ∈ vs, v.plain = true
theorem RTable_run {call : CallT} {lf : Nat} {os : List (Option AObj)} {F q r : Nat} {ts : List (List Nat)} {vs : List V} (h : RAt os F q r ts vs) (t : List Nat) (hlf : ts.length < lf) (hs : ts.length ≤ 64) :
    enterF call lf [.ptr (some (F, 0)), .str t] (few os) RTable_c = some (lookT t ts vs, few os) := by
  obtain ⟨o1, hF⟩ := h.font
  have l0 : loadV (few os) false 1 (.ptr (some (F, 0))) = some (tagsV q ts.length) := (load_few hF).trans rfl
  have l1 : loadV (few os) false 1 (.ptr (some (F, 1))) = some (tagsV r ts.length) := (load_few hF).trans rfl
  have ll : lenV (few os) .slice (tagsV q ts.length) = some (.int .i64 (ts.length : Int)) := by
    unfold tagsV; split
    · rename_i h0; rw [h0]; rfl
    · rfl
  refine enter_eq ?_
  simp
  refine wp_loop (fun k s st => ∃ i, i + k = ts.length ∧ st = few os ∧ s .h = .ptr (some (F, 0)) ∧ s (.o .h) = .str t ∧ s (.i (.i .h)) = .int .i64 (i : Int) ∧ lookT t ts vs = lookT t (ts.drop i) (vs.drop i)) ts.length ?_ hlf ?_
  · exact ⟨0, by omega, rfl, by simp, by simp, by simp, rfl⟩
  · rintro k s st ⟨i, hi, rfl, s1, s2, s3, s4⟩
    cases k with
    | zero =>
      have : i = ts.length := by omega
      subst this
      rw [List.drop_length] at s4
      have s4 : lookT t ts vs = .tuple [.slice none 0 0 0 true, .bool false] := s4
      simp (disch := omega) [s1, s2, s3, s4, l0, ll, dltn_f]
    | succ k =>
      have hlt : i < ts.length := by omega
      have hne : ts ≠ [] := by intro e; rw [e] at hlt; simp at hlt
      obtain ⟨x, hx⟩ : ∃ x, ts[i]? = some x := ⟨_, List.getElem?_eq_getElem hlt⟩
      obtain ⟨v, hv⟩ : ∃ v, vs[i]? = some v := ⟨_, List.getElem?_eq_getElem (by rw [h.len]; exact hlt)⟩
      obtain ⟨o2, hq⟩ := h.tags hne
      obtain ⟨o3, hr⟩ := h.tabs hne
      have hvp := h.plain v (List.mem_of_getElem? hv)
      have lx : loadV (few os) false 1 (.ptr (some (q, i))) = some (.str x) := by rw [load_few hq, strsV_at, hx]; rfl
      have lv : loadV (few os) false 1 (.ptr (some (r, i))) = some v := by rw [load_few hr, hv]
      obtain ⟨n, hn⟩ : ∃ n, n = ts.length := ⟨_, rfl⟩
      have tq : tagsV q ts.length = .slice (some (q, 0)) 1 n n false := by unfold tagsV; rw [if_neg (by omega), hn]
      have tr : tagsV r ts.length = .slice (some (r, 0)) 1 n n false := by unfold tagsV; rw [if_neg (by omega), hn]
      rw [tq] at l0 ll
      rw [tr] at l1
      have hin : i < n := by omega
      rw [lookT_drop hx hv] at s4
      by_cases hc : x = t
      · rw [if_pos hc] at s4
        simp (disch := omega) [s1, s2, s3, s4, l0, l1, hn, hin, hlt, dltn_t, natOf_int, idxAddr_slice, lx, lv, hc, hvp]
      · rw [if_neg hc] at s4
        simp (disch := omega) [s1, s2, s3, l0, hn, hin, hlt, dltn_t, natOf_int, idxAddr_slice, lx, hc, wrap_i]
        exact ⟨k, by omega, i + 1, by omega, by simp, s4⟩
def RTableF (call : CallT) (g : Nat) : Prop := ∀ (os : List (Option AObj)) (F q r : Nat) (ts : List (List Nat)) (vs : List V) (t : List Nat), RAt os F q r ts vs → ts.length ≤ 64 → call g [.ptr (some (F, 0)), .str t] (few os) = some (lookT t ts vs, few os)
theorem RTableF.code {base : CallT} {g lf : Nat} (hlf : 65 ≤ lf) : RTableF (Vabs.withF base g lf RTable_c) g := fun os F q r ts vs t h hs => by rw [withF_same]; exact RTable_run h t (by omega) hs
theorem RTableF.withF {call : CallT} {n g lf : Nat} {fn : AFunc} (h : RTableF call n) (hne : n ≠ g) : RTableF (Vabs.withF call g lf fn) n := fun os F q r ts vs t a b => by rw [withF_other hne]; exact h os F q r ts vs t a b
theorem RTableF.other {call : CallT} {n g : Nat} {l : List V → St → Option (V × St)} (h : RTableF call n) (hne : n ≠ g) : RTableF (withL call g l) n := fun os F q r ts vs t a b => by rw [withL_other hne]; exact h os F q r ts vs t a b
/-- The slices of the tables. -/
def slsV (L : List (List Nat × List Nat)) (ps : List Nat) : List V := List.zipWith (fun x p => V.slice (some (p, 0)) 1 x.2.length x.2.length false) L ps
theorem sls_len {L : List (List Nat × List Nat)} {ps : List Nat} (h : ps.length = L.length) : (slsV L ps).length = L.length := by
  unfold slsV
  rw [List.length_zipWith, h, Nat.min_self]
theorem sls_plain {L : List (List Nat × List Nat)} {ps : List Nat} : ∀ v ∈ slsV L ps, v.plain = true := by
  intro v hv
  unfold slsV at hv
  obtain ⟨i, hi, rfl⟩ := List.getElem_of_mem hv
  rw [List.getElem_zipWith]
  rfl
structure RFontAt (os : List (Option AObj)) (N F q r : Nat) (L : List (List Nat × List Nat)) (ps : List Nat) : Prop where
  font : (os[F]?).join = some (.cells true [tagsV q L.length, tagsV r L.length])
  tags : L ≠ [] → (os[q]?).join = some (.cells true (strsV (L.map (·.1))))
  sls : L ≠ [] → (os[r]?).join = some (.cells true (slsV L ps))
  tabs : ∀ (j p : Nat) (x : List Nat × List Nat), ps[j]? = some p → L[j]? = some x → (os[p]?).join = some (newBytes x.2)
  len : ps.length = L.length
  lo : N ≤ F ∧ N ≤ q ∧ N ≤ r ∧ ∀ p ∈ ps, N ≤ p
  ne : q ≠ F ∧ r ≠ F ∧ q ≠ r ∧ F ∉ ps ∧ q ∉ ps ∧ r ∉ ps ∧ ps.Nodup
theorem RFontAt.at_ {os : List (Option AObj)} {N F q r : Nat} {L : List (List Nat × List Nat)} {ps : List Nat} (h : RFontAt os N F q r L ps) : RAt os F q r (L.map (·.1)) (slsV L ps) :=
  ⟨⟨true, by rw [List.length_map]; exact h.font⟩, fun e => ⟨true, h.tags (fun e' => e (by rw [e']; rfl))⟩, fun e => ⟨true, h.sls (fun e' => e (by rw [e']; rfl))⟩, by rw [sls_len h.len, List.length_map], sls_plain⟩
theorem len_bytes {st st' : St} {v : V} {bs : List Nat} (h : bytesAt st v = some bs) : lenV st' .slice v = some (.int .i64 (bs.length : Int)) := by
  by_cases hne : bs = []
  · subst hne
    unfold bytesAt at h
    split at h
    · rfl
    · rename_i i o n c f
      split at h
      · split at h
        · split at h
          · rename_i l hl
            have : n = 0 := by
              cases l with
              | nil =>
                cases n with
                | zero => rfl
                | succ n =>
                  exfalso
                  have key : ∀ (o : Nat) (cs : List V), cut o (n + 1) cs ≠ some [] := by
                    intro o
                    induction o with
                    | zero =>
                      intro cs hc
                      cases cs with
                      | nil => cases hc
                      | cons x cs =>
                        have hc : (match takeN n cs with | some r => some (x :: r) | none => none) = some [] := hc
                        split at hc <;> cases hc
                    | succ o ih =>
                      intro cs hc
                      cases cs with
                      | nil => cases hc
                      | cons x cs => exact ih cs hc
                  exact key _ _ hl
              | cons x l =>
                exfalso
                cases x with
                | int k z =>
                  have h := (bytesL_some h).1
                  cases h
                | _ => exact absurd (bytesL_some h).1 (by intro e; cases e)
            subst this; rfl
          · cases h
        · cases h
      · cases h
    · cases h
  · obtain ⟨i, o, c, f, own, cs, rfl, hnc, hg, hm, hcs⟩ := bytesAt_place h hne
    rfl
/- THE LAW OF THE REFERENCE's OPEN -/
noncomputable def rfontObjs (N : Nat) (L : List (List Nat × List Nat)) : List AObj :=
  [AObj.cells true [tagsV (N + 1 + L.length) L.length, tagsV (N + 2 + L.length) L.length]] ++ (L.map (fun x => newBytes x.2) ++ (if L = [] then [] else [AObj.cells true (strsV (L.map (·.1))), AObj.cells true (slsV L (idsOf' (N + 1) L.length))]))
noncomputable def ropenA (N : Nat) (bs : List Nat) : Ans :=
  match fontS bs with
  | .inl e => ([], fun _ => errV e)
  | .inr L => (rfontObjs N L, fun k => .tuple [.ptr (some (k, 0)), .int .i64 0])
def ROpenF (call : CallT) (g : Nat) : Prop := ∀ os v bs, v.good os.length = true → lookB (few os).look v = some bs → bs.length ≤ 140737488351232 → call g [v] (few os) = some ((ropenA os.length bs).2 os.length, few (os ++ (ropenA os.length bs).1.map some))
theorem ROpenF.other {call : CallT} {n g : Nat} {l : List V → St → Option (V × St)} (h : ROpenF call n) (hne : n ≠ g) : ROpenF (withL call g l) n := fun os v bs a b c => by rw [withL_other hne]; exact h os v bs a b c
theorem ROpenF.withF {call : CallT} {n g lf : Nat} {fn : AFunc} (h : ROpenF call n) (hne : n ≠ g) : ROpenF (Vabs.withF call g lf fn) n := fun os v bs a b c => by rw [withF_other hne]; exact h os v bs a b c

end Go.Vabs.Sg
