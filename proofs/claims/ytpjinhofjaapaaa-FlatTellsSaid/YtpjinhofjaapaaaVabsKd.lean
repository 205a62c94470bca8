/-
  Places of several slices.
-/
import Derived.Test.YtpjinhofjaapaaaVabsKc
namespace Go.Vabs.Kd
set_option linter.unusedVariables false
set_option linter.unusedSimpArgs false
set_option maxRecDepth 10000
attribute [local simp] wp_skip wp_ret wp_exit wp_reg wp_seq wp_cond wp_block thenQ_normal thenQ_ret thenQ_exit blockQ_normal blockQ_ret blockQ_exit wpCond_true wpCond_false wpOps_nil wpVal_some wpGuard_true wpGuard_false wpOps_guard wpOps_cons
  put_at put_no ev_c ev_slot posEq_h posEq_o posEq_i posEq_ho posEq_hi posEq_oh posEq_ih posEq_oi posEq_io sel_true sel_false
  okv_some step_mv step_call step_pick pickV_bool step_bin bin_add bin_sub bin_mul bin_eql bin_neq bin_lss bin_leq bin_gtr bin_geq bin_eqb bin_neb bin_eqs bin_nes step_un un_not un_neg step_len len_slice len_str len_const step_extract extractV nth step_convInt conv_int step_convStr step_slice step_idxAddr natOf_nat step_load step_index step_field step_fieldAddr step_build step_minmax
  step_alloc step_bslice bsliceV_some newV_some step_store step_append boolIs_b boolIs_t finQ_ret finQ_normal ressE_nil ressE_cons resE_tmp consO_some initE_nil initE_cons pos_0 pos_1 pos_2 pos_3 pos_4 pos_5 pos_6 pos_7 pos_8 plain_bool plain_int plain_str plain_ptr plain_slice plain_map plain_agg plain_func plain_nilFunc V.undef oneOf_one oneOf_two ble_self
open Go.Vabs.Ph Go.Vabs.Fl Go.Vabs.Ka Go.Vabs.Kb Go.Vabs.Kc
attribute [local simp] step_nilchk nilchk_ptr step_box cells_int cells_bool cells_str cells_slice cells_ptr cells_agg fieldAddrV natOf_zero fill repN splice over newV
  wp_dreg wpDs_nil wpDs_cons wantedE_none wantedE_some wpDGuard_true wpDGuard_lim wpDGuard_false wpDLim_true wpDVal_free wpDVal_lim back_limited next_limited limF_dir limF_false foot_load foot_convStr okAll_nil okAll_cons pastsOf nthP ahead few_next load_limited okPair_dd okPair_dc okPair_cd okPair_cc anyIn_nil anyIn_same anyIn_cons meets_nil meets_nil' blt_dec
/- PLACES OF SEVERAL SLICES -/
theorem step_appendZ' {call : CallT} {s : Env} {st : St} {e bytes : Nat} {zs : List V} {d n : Src} : stepE call (.appendZ e bytes zs d n) s st = (match natOf (s.ev n) with | some m => appendV st e bytes (s.ev d) (some m) (some (repN m zs)) | none => none) := by
  show (match ex_appendZ e bytes zs d n s.ev st with | some (.val v, st') => _ | some (.enter g args, st') => _ | none => _) = _
  unfold ex_appendZ appendV
  cases natOf (s.ev n) with
  | none => rfl
  | some m =>
    dsimp only
    rw [appendF_eq]
    cases h : appendOp st e bytes (s.ev d) m (repN m zs) with
    | none => rfl
    | some p =>
      obtain ⟨r, st'⟩ := p
      obtain ⟨v, rfl⟩ := appendOp_val h
      rfl
noncomputable def capV : V → Option V
  | .slice _ _ _ c true => some (.int .i64 (.ofNat c))
  | _ => none
theorem step_capOf {call : CallT} {s : Env} {st : St} {x : Src} : stepE call (.capOf x) s st = okv (capV (s.ev x)) st := by
  refine step_of ?_
  show ex_capOf x s.ev st = _
  unfold ex_capOf capV
  generalize s.ev x = u
  cases u <;> try rfl
  rename_i a e n c f
  cases f <;> rfl
attribute [local simp] step_capOf step_appendZ'
def zeroP : List V := [.int .i64 0, .int .i64 0, .bool false]
theorem repN_len : ∀ (n : Nat) (zs : List V), (repN n zs).length = n * zs.length
  | 0, zs => by simp [repN]
  | n + 1, zs => by
    show (zs ++ repN n zs).length = _
    rw [List.length_append, repN_len n zs, Nat.add_mul, Nat.one_mul, Nat.add_comm]
def GrowPF (call : CallT) (g : Nat) : Prop := ∀ (os : List (Option AObj)) (t : Nat), 0 < t → t ≤ 1048576 → call g [.slice none 0 0 0 true, .int .i64 (t : Int)] (few os) = some (.slice (some (os.length, 0)) 3 0 t false, few (os ++ [some (.cells true (repN t zeroP))]))
theorem GrowP_run {call : CallT} {lf : Nat} {os : List (Option AObj)} {t : Nat} (h0 : 0 < t) (ht : t ≤ 1048576) :
    enterF call lf [.slice none 0 0 0 true, .int .i64 (t : Int)] (few os) GrowP_c = some (.slice (some (os.length, 0)) 3 0 t false, few (os ++ [some (.cells true (repN t zeroP))])) := by
  have hsl : sliceOp (.slice 3) (.slice none 0 0 0 true) none (some (.int .i64 0)) none = some (.slice none 3 0 0 true) := rfl
  have hcap : capV (.slice none 0 0 0 true) = some (.int .i64 0) := rfl
  obtain ⟨m, rfl⟩ : ∃ m, t = m + 1 := ⟨t - 1, by omega⟩
  obtain ⟨u, hu⟩ : ∃ u, u = m + 1 := ⟨_, rfl⟩
  rw [← hu] at h0 ht ⊢
  have hgr : appendV (few os) 3 24 (.slice none 3 0 0 true) (some u) (some (repN u zeroP)) = some (.slice (some (os.length, 0)) 3 u u false, few (os ++ [some (.cells true (repN u zeroP))])) := by
    rw [hu, grow_none, if_pos ⟨by omega, by rw [repN_len]; rfl⟩]
  have hb : Nat.beq u 0 = false := by rw [hu]; rfl
  have hsh : sliceOp (.slice 3) (.slice (some (os.length, 0)) 3 u u false) none (some (.int .i64 0)) none = some (.slice (some (os.length, 0)) 3 0 u false) := by
    simp only [sliceOp, bound, natOf_zero, Nat.beq_refl, Bool.true_or, sel_true, ble_t (Nat.zero_le u), Option.isSome_none, Bool.or_false, hb, Bool.false_and, sel_false]
    rfl
  have hgr : appendV (few os) 3 24 (.slice none 3 0 0 true) (some u) (some (repN u [.int .i64 0, .int .i64 0, .bool false])) = some (.slice (some (os.length, 0)) 3 u u false, few (os ++ [some (.cells true (repN u zeroP))])) := hgr
  refine enter_eq ?_
  simp (disch := omega) [hcap, wrap_i, dlt_f, dlt_t, h0, hsl, natOf_nat, hgr, hsh, -repN]
theorem GrowPF.code {base : CallT} {g lf : Nat} : GrowPF (Vabs.withF base g lf GrowP_c) g := fun os t h0 h => by rw [withF_same]; exact GrowP_run h0 h
theorem GrowPF.withF {call : CallT} {n g lf : Nat} {fn : AFunc} (h : GrowPF call n) (hne : n ≠ g) : GrowPF (Vabs.withF call g lf fn) n := fun os t h0 ht => by rw [withF_other hne]; exact h os t h0 ht
/-- Slices of places, one behind the other, in memory. -/
structure SlsAt (os : List (Option AObj)) (v : V) (ls : List (List Pl)) : Prop where
  lenV : ∀ st, lenV st .slice v = some (.int .i64 (ls.length : Int))
  at_ : ∀ (j : Nat) (l : List Pl), ls[j]? = some l → ∃ q u, idxAddrV (.slice 1) v (some j) = some (.ptr (some q)) ∧ q.1 < os.length ∧ loadV (few os) false 1 (.ptr (some q)) = some u ∧ RowAt Pl.cells 3 os u l
theorem SlsAt.grow {os os' : List (Option AObj)} {v : V} {ls : List (List Pl)} (h : SlsAt os v ls) (he : ∀ i, i < os.length → (os'[i]?).join = (os[i]?).join) (hl : os.length ≤ os'.length) : SlsAt os' v ls := by
  refine ⟨h.lenV, fun j l hj => ?_⟩
  obtain ⟨q, u, h1, h2, h3, h4⟩ := h.at_ j l hj
  refine ⟨q, u, h1, by omega, ?_, h4.grow he hl⟩
  obtain ⟨i, o⟩ := q
  rw [load_fewC, cellsAt_eq, he i h2, ← cellsAt_eq, ← load_fewC]
  exact h3
def sumP (ls : List (List Pl)) (i : Nat) : Nat := (ls.take i).flatten.length
theorem sumP_take {ls : List (List Pl)} {k : Nat} {b : List Pl} (h : ls[k]? = some b) : (ls.take (k + 1)).flatten = (ls.take k).flatten ++ b := by
  rw [List.take_add_one, h]
  simp
theorem sumP_le {ls : List (List Pl)} (k : Nat) : (ls.take k).flatten.length ≤ ls.flatten.length := by
  conv => rhs; rw [← List.take_append_drop k ls, List.flatten_append, List.length_append]
  omega
theorem zero_drop : ∀ (t n : Nat) (zs : List V), (repN t zs).drop (n * zs.length) = repN (t - n) zs
  | t, 0, zs => by simp
  | 0, n + 1, zs => by simp [repN]
  | t + 1, n + 1, zs => by
    show (zs ++ repN t zs).drop ((n + 1) * zs.length) = _
    rw [Nat.add_mul, Nat.one_mul, Nat.add_comm, ← List.drop_drop, List.drop_left, zero_drop t n zs, Nat.add_sub_add_right]
def ConcatPF (call : CallT) (g : Nat) : Prop := ∀ os v (ls : List (List Pl)), SlsAt os v ls → ls.length ≤ 3 → ls.flatten ≠ [] → ls.flatten.length ≤ 4096 → call g [v] (few os) = some (.slice (some (os.length, 0)) 3 ls.flatten.length ls.flatten.length false, few (os ++ [some (.cells true (encG Pl.cells ls.flatten))]))
set_option maxHeartbeats 1000000 in
theorem ConcatP_run {call : CallT} {lf nG : Nat} (hlf : 3 < lf) (hG : GrowPF call nG) {os : List (Option AObj)} {v : V} {ls : List (List Pl)} (h : SlsAt os v ls) (hn3 : ls.length ≤ 3) (hne : ls.flatten ≠ []) (hs : ls.flatten.length ≤ 4096) :
    enterF call lf [v] (few os) (ConcatP_c nG) = some (.slice (some (os.length, 0)) 3 ls.flatten.length ls.flatten.length false, few (os ++ [some (.cells true (encG Pl.cells ls.flatten))])) := by
  obtain ⟨t, ht⟩ : ∃ t, t = ls.flatten.length := ⟨_, rfl⟩
  have ht0 : 0 < t := by rw [ht]; exact List.length_pos_iff.2 hne
  rw [← ht] at hs ⊢
  have main := enter_wp (call := call) (lf := lf) (n := 36) (args := [v]) (st := few os) (K := fun w st => st = few (os ++ [some (.cells true (encG Pl.cells ls.flatten))]) ∧ w = .slice (some (os.length, 0)) 3 t t false) (c := (ConcatP_c nG).code) (rs := (ConcatP_c nG).results) ?_
  · obtain ⟨w, st', h1, rfl, rfl⟩ := main
    exact h1
  · have hbl := h.lenV
    obtain ⟨n, hn⟩ : ∃ n, n = ls.length := ⟨_, rfl⟩
    rw [← hn] at hbl hn3
    unfold ConcatP_c
    dsimp only
    simp [hbl]
    refine wp_loop (fun k s st => ∃ i : Nat, i + k = n ∧ st = few os ∧ s .h = v ∧ s (.o (.i (.o .h))) = v ∧ s (.i (.i (.o .h))) = .int .i64 (n : Int) ∧ s (.o (.o (.i .h))) = .int .i64 (i : Int) ∧ s (.o (.o .h)) = .int .i64 (sumP ls i : Int)) n ?_ (by omega) ?_
    · refine ⟨0, by omega, rfl, ?_, ?_, ?_, ?_, ?_⟩ <;> simp [sumP]
    · rintro k s st ⟨i, hi, rfl, s1, s2, s3, s4, s5⟩
      obtain ⟨u, hu⟩ : ∃ u, u = sumP ls i := ⟨_, rfl⟩
      rw [← hu] at s5
      have hut : u ≤ t := by rw [hu, ht]; exact sumP_le (ls := ls) i
      cases k with
      | succ k =>
        obtain ⟨b, hb⟩ : ∃ b, ls[i]? = some b := ⟨_, List.getElem?_eq_getElem (by omega)⟩
        obtain ⟨q, x, h1, h2, h3, h4⟩ := h.at_ i b hb
        have hwl := h4.lenV
        have hsum : sumP ls (i + 1) = u + b.length := by unfold sumP; rw [sumP_take hb, List.length_append, hu]; rfl
        have hle : u + b.length ≤ t := by rw [← hsum, ht]; exact sumP_le (ls := ls) (i + 1)
        have hin : i < n := by omega
        simp (disch := omega) [s1, s2, s3, s4, s5, hin, dltn_t, dlt_f, natOf_j, h1, h3, hwl, wrap_i]
        refine ⟨k, by omega, i + 1, by omega, by omega, by rw [hsum]; omega⟩
      | zero =>
        have hin : i = n := by omega
        subst hin
        have hut' : u = t := by rw [hu, ht, hn]; unfold sumP; rw [List.take_length]
        rw [hut'] at s5
        have hg := hG os t ht0 (by omega)
        simp (disch := omega) [s1, s2, s3, s4, s5, dltn_f, hg, hbl]
        refine wp_loop (fun k s st => ∃ j : Nat, j + k = i ∧ st = few (os ++ [some (.cells true (encG Pl.cells (ls.take j).flatten ++ repN (t - sumP ls j) zeroP))]) ∧ s (.o (.i (.o (.i .h)))) = v ∧ s (.i (.i (.o (.i .h)))) = .int .i64 (i : Int) ∧ s (.o (.o (.i (.i .h)))) = .int .i64 (j : Int) ∧ s (.i (.i .h)) = .slice (some (os.length, 0)) 3 (sumP ls j) t false) i ?_ (by omega) ?_
        · refine ⟨0, by omega, ?_, ?_, ?_, ?_, ?_⟩ <;> simp [s1, sumP, encG, -repN]
        · rintro k s st ⟨j, hj, rfl, r1, r2, r3, r4⟩
          cases k with
          | zero =>
            have hji : j = i := by omega
            subst hji
            have hsl : sumP ls j = t := by unfold sumP; rw [hn, List.take_length, ht]
            rw [hsl, Nat.sub_self, hn, List.take_length] 
            rw [hsl] at r4
            simp (disch := omega) [r1, r2, r3, r4, dltn_f, repN, hn]
          | succ k =>
            obtain ⟨b, hb⟩ : ∃ b, ls[j]? = some b := ⟨_, List.getElem?_eq_getElem (by omega)⟩
            obtain ⟨X, hX⟩ : ∃ X, X = os ++ [some (.cells true (encG Pl.cells (ls.take j).flatten ++ repN (t - sumP ls j) zeroP))] := ⟨_, rfl⟩
            have hXo : ∀ i, i < os.length → (X[i]?).join = (os[i]?).join := fun i hi => by rw [hX, joinApp hi]
            obtain ⟨q, x, h1, h2, h3, h4⟩ := (h.grow (os' := X) hXo (by rw [hX]; simp)).at_ j b hb
            have w1 := h4.len
            have w2 := h4.first X (fun _ _ => rfl)
            obtain ⟨u', hu'⟩ : ∃ u', u' = sumP ls j := ⟨_, rfl⟩
            have hul : ((ls.take j).flatten).length = u' := hu'.symm
            have hsum : sumP ls (j + 1) = u' + b.length := by unfold sumP; rw [sumP_take hb, List.length_append, hul]
            have hle : u' + b.length ≤ t := by rw [← hsum, ht]; exact sumP_le (ls := ls) (j + 1)
            rw [← hu'] at r4 hX
            have hcl : (encG Pl.cells (ls.take j).flatten).length = u' * 3 := by rw [encG_len (fun a => Pl.len a), hul]
            have hXp : (X[os.length]?).join = some (.cells true (encG Pl.cells (ls.take j).flatten ++ repN (t - u') zeroP)) := by rw [hX, joinEnd]
            have hroom := roomG (e := 3) (n := u') (m := b.length) (t := t) (bytes := 24) (new := encG Pl.cells b) hXp (encG_len (fun a => Pl.len a) b) hle (by rw [List.length_append, hcl, repN_len]; show u' * 3 + (t - u') * 3 = t * 3; omega) (by omega)
            obtain ⟨Y, hY⟩ : ∃ Y, Y = X.set os.length (some (.cells true ((encG Pl.cells (ls.take j).flatten ++ repN (t - u') zeroP).take (u' * 3) ++ encG Pl.cells b ++ (encG Pl.cells (ls.take j).flatten ++ repN (t - u') zeroP).drop ((u' + b.length) * 3)))) := ⟨_, rfl⟩
            rw [← hY] at hroom
            have hnext : Y = os ++ [some (.cells true (encG Pl.cells (ls.take (j + 1)).flatten ++ repN (t - sumP ls (j + 1)) zeroP))] := by
              rw [hY, hX, hsum, sumP_take hb, encG_app, set_end]
              have e1 : (encG Pl.cells (ls.take j).flatten ++ repN (t - u') zeroP).take (u' * 3) = encG Pl.cells (ls.take j).flatten := by
                rw [List.take_append_of_le_length (by omega), List.take_of_length_le (by omega)]
              have e2 : (encG Pl.cells (ls.take j).flatten ++ repN (t - u') zeroP).drop ((u' + b.length) * 3) = repN (t - (u' + b.length)) zeroP := by
                rw [Nat.add_mul, ← List.drop_drop, ← hcl, List.drop_left]
                have := zero_drop (t - u') b.length zeroP
                rw [show zeroP.length = 3 from rfl] at this
                rw [this, Nat.sub_sub]
              rw [e1, e2]
            have hin : j < i := by omega
            rw [← hu', ← hX]
            simp (disch := omega) [r1, r2, r3, r4, hin, dltn_t, natOf_j, h1, h3, w1, firstNo_some, w2, hroom, wrap_i]
            exact ⟨k, by omega, j + 1, by omega, by rw [hnext], by omega, by rw [hsum]⟩
theorem ConcatPF.code {base : CallT} {g lf nG : Nat} (hlf : 3 < lf) (hG : GrowPF base nG) : ConcatPF (Vabs.withF base g lf (ConcatP_c nG)) g := fun os v ls h1 h2 h3 h4 => by rw [withF_same]; exact ConcatP_run hlf hG h1 h2 h3 h4
theorem ConcatPF.withF {call : CallT} {n g lf : Nat} {fn : AFunc} (h : ConcatPF call n) (hne : n ≠ g) : ConcatPF (Vabs.withF call g lf fn) n := fun os v ls a b c d => by rw [withF_other hne]; exact h os v ls a b c d

end Go.Vabs.Kd
