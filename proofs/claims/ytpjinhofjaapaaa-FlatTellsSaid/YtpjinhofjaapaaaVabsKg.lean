/-
  Segments of contours.
-/
import Derived.Test.YtpjinhofjaapaaaVabsKf
namespace Go.Vabs.Kg
set_option linter.unusedVariables false
set_option linter.unusedSimpArgs false
set_option maxRecDepth 10000
attribute [local simp] wp_skip wp_ret wp_exit wp_reg wp_seq wp_cond wp_block thenQ_normal thenQ_ret thenQ_exit blockQ_normal blockQ_ret blockQ_exit wpCond_true wpCond_false wpOps_nil wpVal_some wpGuard_true wpGuard_false wpOps_guard wpOps_cons
  put_at put_no ev_c ev_slot posEq_h posEq_o posEq_i posEq_ho posEq_hi posEq_oh posEq_ih posEq_oi posEq_io sel_true sel_false
  okv_some step_mv step_call step_pick pickV_bool step_bin bin_add bin_sub bin_mul bin_eql bin_neq bin_lss bin_leq bin_gtr bin_geq bin_eqb bin_neb bin_eqs bin_nes step_un un_not un_neg step_len len_slice len_str len_const step_extract extractV nth step_convInt conv_int step_convStr step_slice step_idxAddr natOf_nat step_load step_index step_field step_fieldAddr step_build step_minmax
  step_alloc step_bslice bsliceV_some newV_some step_store step_append boolIs_b boolIs_t finQ_ret finQ_normal ressE_nil ressE_cons resE_tmp consO_some initE_nil initE_cons pos_0 pos_1 pos_2 pos_3 pos_4 pos_5 pos_6 pos_7 pos_8 plain_bool plain_int plain_str plain_ptr plain_slice plain_map plain_agg plain_func plain_nilFunc V.undef oneOf_one oneOf_two ble_self
open Go.Vabs.Ph Go.Vabs.Fl Go.Vabs.Ka Go.Vabs.Kb Go.Vabs.Kc Go.Vabs.Kd Go.Vabs.Ke Go.Vabs.Kf
attribute [local simp] step_nilchk nilchk_ptr step_box cells_int cells_bool cells_str cells_slice cells_ptr cells_agg fieldAddrV natOf_zero fill repN splice over newV
  wp_dreg wpDs_nil wpDs_cons wantedE_none wantedE_some wpDGuard_true wpDGuard_lim wpDGuard_false wpDLim_true wpDVal_free wpDVal_lim back_limited next_limited limF_dir limF_false foot_load foot_convStr okAll_nil okAll_cons pastsOf nthP ahead few_next load_limited okPair_dd okPair_dc okPair_cd okPair_cc anyIn_nil anyIn_same anyIn_cons meets_nil meets_nil' blt_dec
/- SEGMENTS -/
/-- Contours that a slice leads to. -/
structure CIn (os : List (Option AObj)) (w : V) (cs : List (List Pl)) : Prop where
  lenV : ∀ st, lenV st .slice w = some (.int .i64 (cs.length : Int))
  at_ : ∀ (j : Nat) (c : List Pl), cs[j]? = some c → ∃ q u, idxAddrV (.slice 1) w (some j) = some (.ptr (some q)) ∧ q.1 < os.length ∧ loadV (few os) false 1 (.ptr (some q)) = some u ∧ RowIn Pl.cells 3 os u c
theorem CIn.grow {os os' : List (Option AObj)} {w : V} {cs : List (List Pl)} (h : CIn os w cs) (he : ∀ i, i < os.length → (os'[i]?).join = (os[i]?).join) (hl : os.length ≤ os'.length) : CIn os' w cs := by
  refine ⟨h.lenV, fun j c hj => ?_⟩
  obtain ⟨q, u, h1, h2, h3, h4⟩ := h.at_ j c hj
  refine ⟨q, u, h1, by omega, ?_, h4.grow he hl⟩
  obtain ⟨i, o⟩ := q
  rw [load_fewC, cellsAt_eq, he i h2, ← cellsAt_eq, ← load_fewC]
  exact h3
theorem Conts.cin {os : List (Option AObj)} {N : Nat} {w : V} {vs : List V} {cs : List (List Pl)} (h : Conts os N w vs cs) : CIn os w cs := by
  refine ⟨fun st => by rw [← h.len]; exact h.out.lenV st, fun j c hj => ?_⟩
  have hlt := (List.getElem?_eq_some_iff.1 hj).1
  obtain ⟨u, hu⟩ : ∃ u, vs[j]? = some u := ⟨_, List.getElem?_eq_getElem (by have := h.len; omega)⟩
  obtain ⟨q, _, h2, h3, h4, _, h5⟩ := h.out.row (fun a => (rfl : (one1 a).length = 1)) hu
  exact ⟨(q, j * 1), u, h4, h2, h5 0 Nat.one_pos, (h.at_ j u c hu hj).1.rowIn (fun a => Pl.len a)⟩
theorem cinOne {os : List (Option AObj)} {i : Nat} {u : V} {c : List Pl} {f : Bool} (h : (os[i]?).join = some (.cells true [u])) (hu : RowIn Pl.cells 3 os u c) : CIn os (.slice (some (i, 0)) 1 1 1 f) [c] := by
  refine ⟨fun st => rfl, fun j c' hj => ?_⟩
  match j, hj with
  | 0, hj =>
    cases hj
    exact ⟨(i, 0 + 0 * 1), u, idxAddr_slice (by omega), joinLt h, (load_few h).trans rfl, hu⟩
  | j + 1, hj => simp at hj
def segs1 (m : Aff) (c : List Pl) : List Sg := if 2 ≤ c.length then linesP (begunP (turnP m c)) else []
def segsP (m : Aff) (cs : List (List Pl)) : List Sg := (cs.map (segs1 m)).flatten
theorem begun_in {l : List Pl} (h : ∀ p ∈ l, inP p) : ∀ p ∈ begunP l, inP p := by
  intro p hp
  unfold begunP at hp
  split at hp
  · rcases List.mem_append.1 hp with h1 | h1
    · exact h p (List.mem_of_mem_drop h1)
    · exact h p (List.mem_of_mem_take h1)
  · split at hp
    · rename_i z a hz ha
      have hzi := h z (List.mem_of_getLast? hz)
      have hai := h a (List.mem_of_head? ha)
      simp only [List.cons_append, List.mem_cons, List.mem_append, List.not_mem_nil, or_false] at hp
      rcases hp with rfl | h1 | rfl
      · exact mid_in hzi hai
      · exact h p h1
      · exact mid_in hzi hai
    · cases hp
theorem begun_len {l : List Pl} (h : 2 ≤ l.length) : 3 ≤ (begunP l).length ∧ (begunP l).length ≤ l.length + 2 := by
  unfold begunP
  split
  · rename_i i hi
    have := firstOn_lt hi
    rw [List.length_append, List.length_drop, List.length_take]
    omega
  · split
    · rw [List.cons_append, List.length_cons, List.length_append]
      simp
      omega
    · rename_i hx
      exfalso
      cases l with
      | nil => simp at h
      | cons a l =>
        cases hl : (a :: l).getLast? with
        | none => simp at hl
        | some z => exact hx z a hl rfl
theorem segs1_len {m : Aff} {c : List Pl} (h : c.length ≤ 31) : (segs1 m c).length ≤ 272 := by
  unfold segs1
  split
  · rename_i h2
    have hb := begun_len (l := turnP m c) (by simpa [turnP] using h2)
    have ht : (turnP m c).length = c.length := by simp [turnP]
    cases hc : begunP (turnP m c) with
    | nil => rw [hc] at hb; simp at hb
    | cons a l =>
      rw [hc] at hb
      have := go_len l a none []
      simp only [List.length_cons, List.length_nil] at hb this
      show (linesGo l a none []).length ≤ 272
      omega
  · simp
theorem segsP_snoc {m : Aff} {cs : List (List Pl)} {j : Nat} {c : List Pl} (h : cs[j]? = some c) : segsP m (cs.take (j + 1)) = segsP m (cs.take j) ++ segs1 m c := by
  unfold segsP
  rw [List.take_add_one, h]
  simp
theorem segsP_len {m : Aff} : ∀ (cs : List (List Pl)), (∀ c ∈ cs, c.length ≤ 31) → (segsP m cs).length ≤ 272 * cs.length
  | [], _ => by simp [segsP]
  | c :: cs, h => by
    have h1 := segs1_len (m := m) (h c (List.mem_cons_self ..))
    have h2 := segsP_len (m := m) cs (fun c hc => h c (List.mem_cons_of_mem _ hc))
    simp only [segsP, List.map_cons, List.flatten_cons, List.length_append, List.length_cons] at h1 h2 ⊢
    omega
def SegsF (call : CallT) (g : Nat) : Prop := ∀ os w (m : Aff) (cs : List (List Pl)), CIn os w cs → cs.length ≤ 31 → (∀ c ∈ cs, c.length ≤ 31) → ∃ u os', call g [w, m.V] (few os) = some (u, few os') ∧ OutG Sg.cells 4 os' os.length u (segsP m cs) ∧ (∀ i, i < os.length → (os'[i]?).join = (os[i]?).join) ∧ os.length ≤ os'.length
set_option maxHeartbeats 2000000 in
theorem Segs_run {call : CallT} {lf nT nB nL : Nat} (hlf : 31 < lf) (hT : TurnedF call nT) (hB : BegunF call nB) (hL : LinesF call nL) {os : List (Option AObj)} {w : V} {m : Aff} {cs : List (List Pl)} (h : CIn os w cs) (hl : cs.length ≤ 31) (hc : ∀ c ∈ cs, c.length ≤ 31) :
    ∃ u os', enterF call lf [w, m.V] (few os) (Segs_c nT nB nL) = some (u, few os') ∧ OutG Sg.cells 4 os' os.length u (segsP m cs) ∧ (∀ i, i < os.length → (os'[i]?).join = (os[i]?).join) ∧ os.length ≤ os'.length := by
  obtain ⟨L, hLe⟩ : ∃ L, L = os.length := ⟨_, rfl⟩
  rw [← hLe]
  have main := enter_wp (call := call) (lf := lf) (n := 26) (args := [w, m.V]) (st := few os) (K := fun u st => ∃ os', st = few os' ∧ OutG Sg.cells 4 os' L u (segsP m cs) ∧ (∀ i, i < L → (os'[i]?).join = (os[i]?).join) ∧ L ≤ os'.length) (c := (Segs_c nT nB nL).code) (rs := (Segs_c nT nB nL).results) ?_
  · obtain ⟨u, st', h1, os', rfl, h2⟩ := main
    exact ⟨u, os', h1, h2⟩
  · obtain ⟨O, hO⟩ : ∃ O, O = os ++ [some (.cells true m.cells)] := ⟨_, rfl⟩
    have alO : (few os).alloc (.cells true m.cells) = some (L, few O) := by rw [few_alloc, hO, hLe]
    have hOl : O.length = L + 1 := by rw [hO, hLe]; simp
    have hOo : ∀ i, i < L → (O[i]?).join = (os[i]?).join := fun i hi => by rw [hO, joinApp (by omega)]
    have hOe : (O[L]?).join = some (.cells true m.cells) := by rw [hO, hLe, joinEnd]
    have cM := cellsM m
    have hlen := h.lenV
    obtain ⟨n, hn⟩ : ∃ n, n = cs.length := ⟨_, rfl⟩
    rw [← hn] at hlen hl
    unfold Segs_c
    dsimp only
    simp [cM, alO, hlen]
    refine wp_loop (fun k s st => ∃ (os' : List (Option AObj)) (j : Nat), st = few os' ∧ j + k = n ∧ s (.o (.o .h)) = .ptr (some (L, 0)) ∧ s (.i (.o (.o .h))) = w ∧ s (.o (.i (.o .h))) = .int .i64 (n : Int) ∧ s (.i (.i (.o .h))) = .int .i64 (j : Int) ∧ OutG Sg.cells 4 os' (L + 1) (s (.o (.i .h))) (segsP m (cs.take j)) ∧ (∀ i, i < L + 1 → (os'[i]?).join = (O[i]?).join) ∧ L + 1 ≤ os'.length) n ?_ (by omega) ?_
    · refine ⟨O, 0, rfl, by omega, ?_, ?_, ?_, ?_, .inl ⟨rfl, ?_⟩, fun _ _ => rfl, by omega⟩ <;> simp
    · rintro k s st ⟨os', j, rfl, hk, s1, s2, s3, s4, ho, hold, hle⟩
      obtain ⟨ov, hov⟩ : ∃ ov, s (.o (.i .h)) = ov := ⟨_, rfl⟩
      rw [hov] at ho
      cases k with
      | zero =>
        have hj : j = n := by omega
        subst hj
        have hp := ho.plain
        simp (disch := omega) [s1, s2, s3, s4, hov, dltn_f, hp]
        rw [hn, List.take_length] at ho
        exact ⟨os', rfl, ho.lower (by omega), fun i hi => by rw [hold i (by omega), hOo i hi], by omega⟩
      | succ k =>
        obtain ⟨c, hcj⟩ : ∃ c, cs[j]? = some c := ⟨_, List.getElem?_eq_getElem (by omega)⟩
        have hcl := hc c (List.mem_of_getElem? hcj)
        obtain ⟨q, u, h1, h2, h3, h4⟩ := (h.grow (os' := os') (fun i hi => by rw [hold i (by omega), hOo i (by omega)]) (by omega)).at_ j c hcj
        have hul := h4.lenV
        obtain ⟨cl, hcle⟩ : ∃ cl, cl = c.length := ⟨_, rfl⟩
        rw [← hcle] at hul hcl
        by_cases hge : 2 ≤ cl
        · have hM : loadV (few os') true 6 (.ptr (some (L, 0))) = some m.V := loadAll (by rw [hold _ (by omega), hOe]) (Aff.len m)
          obtain ⟨t1, A, a1, a2, a3, a4⟩ := hT os' u m c h4 (by omega)
          have htl : (turnP m c).length = cl := by simp [turnP, hcle]
          have hti : ∀ p ∈ turnP m c, inP p := fun p hp => by
            obtain ⟨p', _, rfl⟩ := List.mem_map.1 hp
            exact turn_in m p'
          obtain ⟨t2, B, b1, b2, b3, b4⟩ := hB A _ t1 (turnP m c) a2 (by omega) (by omega) hti
          have hbl := begun_len (l := turnP m c) (by omega)
          obtain ⟨t3, D, d1, d2, d3, d4⟩ := hL B _ t2 (begunP (turnP m c)) b2 (by omega) (by omega) (begun_in hti)
          have hDo : ∀ i, i < os'.length → (D[i]?).join = (os'[i]?).join := fun i hi => by rw [d3 i (by omega), b3 i (by omega), a3 i hi]
          have hoD : OutG Sg.cells 4 D (L + 1) ov (segsP m (cs.take j)) := ho.keepAll hDo
          have hs1 : segs1 m c = linesP (begunP (turnP m c)) := by unfold segs1; rw [if_pos (by omega)]
          have hsl := segs1_len (m := m) (c := c) (by omega)
          have hsn := segsP_len (m := m) (cs.take j) (fun c hc' => hc c (List.mem_of_mem_take hc'))
          rw [List.length_take] at hsn
          obtain ⟨ov', E, g1, g2, g3, g4⟩ := hoD.grow (fun a => Sg.len a) (nb := linesP (begunP (turnP m c))) (bytes := 32) (by omega) (by rw [← hs1]; omega)
          have w1 := d2.lenO
          have w2 := d2.first (fun a => Sg.len a)
          simp (disch := omega) [s1, s2, s3, s4, hov, dltn_t, natOf_j, h1, h3, hul, dle_t, hge, hM, a1, b1, d1, w1, firstNo_some, w2, g1, wrap_i]
          refine ⟨k, by omega, E, rfl, j + 1, by omega, by omega, ?_, fun i hi => ?_, by omega⟩
          · rw [segsP_snoc hcj, hs1]
            exact g2
          · rw [g3 i (by omega) (fun q o e n c f hq => by have := ho.above hq; omega), hDo i (by omega), hold i hi]
        · have hs1 : segs1 m c = [] := by unfold segs1; rw [if_neg (by omega)]
          simp (disch := omega) [s1, s2, s3, s4, hov, dltn_t, natOf_j, h1, h3, hul, dle_f, hge, wrap_i]
          refine ⟨k, by omega, os', rfl, j + 1, by omega, by omega, ?_, hold, by omega⟩
          rw [segsP_snoc hcj, hs1, List.append_nil]
          exact ho
theorem SegsF.code {base : CallT} {g lf nT nB nL : Nat} (hlf : 31 < lf) (hT : TurnedF base nT) (hB : BegunF base nB) (hL : LinesF base nL) : SegsF (Vabs.withF base g lf (Segs_c nT nB nL)) g := fun os w m cs h h1 h2 => by
  rw [withF_same]; exact Segs_run hlf hT hB hL h h1 h2
theorem SegsF.withF {call : CallT} {n g lf : Nat} {fn : AFunc} (h : SegsF call n) (hne : n ≠ g) : SegsF (Vabs.withF call g lf fn) n := fun os w m cs a b d => by rw [withF_other hne]; exact h os w m cs a b d
theorem SegsF.other {call : CallT} {n g : Nat} {l : List V → St → Option (V × St)} (h : SegsF call n) (hne : n ≠ g) : SegsF (withL call g l) n := fun os w m cs a b d => by rw [withL_other hne]; exact h os w m cs a b d

end Go.Vabs.Kg
