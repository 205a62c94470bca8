/-
  Contours from a place on the curve on.
-/
import Derived.Test.YtpjinhofjaapaaaVabsKd
namespace Go.Vabs.Ke
set_option linter.unusedVariables false
set_option linter.unusedSimpArgs false
set_option maxRecDepth 10000
attribute [local simp] wp_skip wp_ret wp_exit wp_reg wp_seq wp_cond wp_block thenQ_normal thenQ_ret thenQ_exit blockQ_normal blockQ_ret blockQ_exit wpCond_true wpCond_false wpOps_nil wpVal_some wpGuard_true wpGuard_false wpOps_guard wpOps_cons
  put_at put_no ev_c ev_slot posEq_h posEq_o posEq_i posEq_ho posEq_hi posEq_oh posEq_ih posEq_oi posEq_io sel_true sel_false
  okv_some step_mv step_call step_pick pickV_bool step_bin bin_add bin_sub bin_mul bin_eql bin_neq bin_lss bin_leq bin_gtr bin_geq bin_eqb bin_neb bin_eqs bin_nes step_un un_not un_neg step_len len_slice len_str len_const step_extract extractV nth step_convInt conv_int step_convStr step_slice step_idxAddr natOf_nat step_load step_index step_field step_fieldAddr step_build step_minmax
  step_alloc step_bslice bsliceV_some newV_some step_store step_append boolIs_b boolIs_t finQ_ret finQ_normal ressE_nil ressE_cons resE_tmp consO_some initE_nil initE_cons pos_0 pos_1 pos_2 pos_3 pos_4 pos_5 pos_6 pos_7 pos_8 plain_bool plain_int plain_str plain_ptr plain_slice plain_map plain_agg plain_func plain_nilFunc V.undef oneOf_one oneOf_two ble_self
open Go.Vabs.Ph Go.Vabs.Fl Go.Vabs.Ka Go.Vabs.Kb Go.Vabs.Kc Go.Vabs.Kd
attribute [local simp] step_nilchk nilchk_ptr step_box cells_int cells_bool cells_str cells_slice cells_ptr cells_agg fieldAddrV natOf_zero fill repN splice over newV
  wp_dreg wpDs_nil wpDs_cons wantedE_none wantedE_some wpDGuard_true wpDGuard_lim wpDGuard_false wpDLim_true wpDVal_free wpDVal_lim back_limited next_limited limF_dir limF_false foot_load foot_convStr okAll_nil okAll_cons pastsOf nthP ahead few_next load_limited okPair_dd okPair_dc okPair_cd okPair_cc anyIn_nil anyIn_same anyIn_cons meets_nil meets_nil' blt_dec
/- THE FIRST ON THE CURVE -/
theorem step_callv {call : CallT} {s : Env} {st : St} {f : Src} {xs : List Src} : stepE call (.callv f xs) s st = (match s.ev f with | .func g a b => call g (a ++ xs.map s.ev ++ b) st | _ => none) := by
  show (match ex_callv f xs s.ev st with | some (.val v, st') => _ | some (.enter g args, st') => _ | none => _) = _
  unfold ex_callv
  cases s.ev f <;> rfl
noncomputable def isOnS : List V → Option Ans
  | [.agg [.int .i64 _, .int .i64 _, .bool b]] => some ([], fun _ => .bool b)
  | _ => none
def IsOnF (call : CallT) (g : Nat) : Prop := ∀ (p : Pl) st, call g [p.V] st = some (.bool p.on, st)
theorem isOn_sound {P : Program} {call : CallT} (hmix : P.follows .mixedOrders = true) (h : Sound P call) {g : Nat} (hc : compF P g = some isOn_c) : Sound P (withL call g (lawOf (flatRd isOnS))) :=
  h.flat hmix 1 hc fun args os f h1 => by
    unfold isOnS at h1
    split at h1
    · rename_i x y b
      cases h1
      have e : ∃ s1, enterF call 1 [.agg [.int .i64 x, .int .i64 y, .bool b]] (few []) isOn_c = some (.bool b, s1) := by
        refine enter_ex ?_
        simp [few_alloc, load_fewC, cellsAt_zero, loadC_some]
      obtain ⟨s1, e⟩ := e
      exact ⟨_, s1, [], e, fun n => Left.flatA rfl⟩
    · cases h1
theorem isOn_fact {call : CallT} {g : Nat} : IsOnF (withL call g (lawOf (flatRd isOnS))) g := fun p st => (flat_call rfl).trans rfl
theorem IsOnF.other {call : CallT} {n g : Nat} {l : List V → St → Option (V × St)} (h : IsOnF call n) (hne : n ≠ g) : IsOnF (withL call g l) n := fun p st => by rw [withL_other hne]; exact h p st
theorem IsOnF.withF {call : CallT} {n g lf : Nat} {fn : AFunc} (h : IsOnF call n) (hne : n ≠ g) : IsOnF (Vabs.withF call g lf fn) n := fun p st => by rw [withF_other hne]; exact h p st
theorem firstOn_eq : ∀ {c : List Pl} {j : Nat} {p : Pl}, (∀ (i : Nat) (q : Pl), i < j → c[i]? = some q → q.on = false) → c[j]? = some p → p.on = true → firstOn c = some j
  | [], j, p, _, h, _ => by simp at h
  | a :: c, 0, p, _, h, hp => by
    simp at h
    subst h
    simp [firstOn, hp]
  | a :: c, j + 1, p, h0, h, hp => by
    have ha := h0 0 a (by omega) rfl
    have ih := firstOn_eq (c := c) (j := j) (fun i q hi hq => h0 (i + 1) q (by omega) (by simpa using hq)) (by simpa using h) hp
    simp [firstOn, ha, ih]
theorem firstOn_no : ∀ {c : List Pl}, (∀ q ∈ c, q.on = false) → firstOn c = none
  | [], _ => rfl
  | a :: c, h => by simp [firstOn, h a (List.mem_cons_self ..), firstOn_no (c := c) (fun q hq => h q (List.mem_cons_of_mem _ hq))]
theorem firstOn_lt : ∀ {c : List Pl} {j : Nat}, firstOn c = some j → j < c.length
  | a :: c, j, h => by
    unfold firstOn at h
    split at h
    · cases h; simp
    · cases hc : firstOn c with
      | none => rw [hc] at h; cases h
      | some k =>
        rw [hc] at h
        have := firstOn_lt hc
        cases h
        simp
        omega
def IndexF (nOn : Nat) (call : CallT) (g : Nat) : Prop := ∀ os N v (c : List Pl), OutG Pl.cells 3 os N v c → c.length ≤ 31 → call g [v, .func nOn [] []] (few os) = some (match firstOn c with | some i => .int .i64 (i : Int) | none => .int .i64 (-1), few os)
theorem Index_run {call : CallT} {lf nOn : Nat} (hlf : 31 < lf) (hO : IsOnF call nOn) {os : List (Option AObj)} {N : Nat} {v : V} {c : List Pl} (h : OutG Pl.cells 3 os N v c) (hl : c.length ≤ 31) :
    enterF call lf [v, .func nOn [] []] (few os) IndexFunc_c = some (match firstOn c with | some i => .int .i64 (i : Int) | none => .int .i64 (-1), few os) := by
  have main := enter_wp (call := call) (lf := lf) (n := 19) (args := [v, .func nOn [] []]) (st := few os) (K := fun w st => st = few os ∧ w = match firstOn c with | some i => .int .i64 (i : Int) | none => .int .i64 (-1)) (c := IndexFunc_c.code) (rs := IndexFunc_c.results) ?_
  · obtain ⟨w, st', h1, rfl, rfl⟩ := main
    exact h1
  · have hlen := h.lenV
    obtain ⟨n, hn⟩ : ∃ n, n = c.length := ⟨_, rfl⟩
    rw [← hn] at hlen hl
    unfold IndexFunc_c
    dsimp only
    simp [hlen]
    refine wp_loop (fun k s st => ∃ j : Nat, j + k = n ∧ st = few os ∧ s .h = v ∧ s (.o .h) = .func nOn [] [] ∧ s (.o (.o (.o .h))) = .int .i64 (n : Int) ∧ s (.i (.o (.o .h))) = .int .i64 (j : Int) ∧ ∀ (i : Nat) (q : Pl), i < j → c[i]? = some q → q.on = false) n ?_ (by omega) ?_
    · refine ⟨0, by omega, rfl, ?_, ?_, ?_, ?_, fun i q h => by omega⟩ <;> simp
    · rintro k s st ⟨j, hk, rfl, s1, s2, s3, s4, hno⟩
      cases k with
      | zero =>
        have hj : j = n := by omega
        subst hj
        have hf : firstOn c = none := firstOn_no fun q hq => by
          obtain ⟨i, hi, he⟩ := List.mem_iff_getElem.1 hq
          exact hno i q (by omega) (by rw [List.getElem?_eq_getElem hi, he])
        simp (disch := omega) [s1, s2, s3, s4, dltn_f, hf]
      | succ k =>
        obtain ⟨p, hp⟩ : ∃ p, c[j]? = some p := ⟨_, List.getElem?_eq_getElem (by omega)⟩
        obtain ⟨q, _, _, _, q3, q4, _⟩ := h.row (fun a => Pl.len a) hp
        have ho := hO p
        have q4 : loadV (few os) true 3 (.ptr (some (q, j * 3))) = some p.V := q4
        have pp : p.V.plain = true := rfl
        cases hon : p.on with
        | true =>
          have hf := firstOn_eq hno hp hon
          rw [hon] at ho
          simp (disch := omega) [s1, s2, s3, s4, dltn_t, natOf_j, q3, q4, step_callv, ho, hf]
        | false =>
          rw [hon] at ho
          simp (disch := omega) [s1, s2, s3, s4, dltn_t, natOf_j, q3, q4, step_callv, ho, wrap_i]
          refine ⟨k, by omega, j + 1, by omega, by omega, fun i q' hi hq => ?_⟩
          by_cases hij : i = j
          · subst hij
            rw [hp] at hq
            cases hq
            exact hon
          · exact hno i q' (by omega) hq
theorem IndexF.code {base : CallT} {g lf nOn : Nat} (hlf : 31 < lf) (hO : IsOnF base nOn) : IndexF nOn (Vabs.withF base g lf IndexFunc_c) g := fun os N v c h1 h2 => by rw [withF_same]; exact Index_run hlf hO h1 h2
theorem IndexF.withF {call : CallT} {nOn n g lf : Nat} {fn : AFunc} (h : IndexF nOn call n) (hne : n ≠ g) : IndexF nOn (Vabs.withF call g lf fn) n := fun os N v c a b => by rw [withF_other hne]; exact h os N v c a b
/- BEGUN -/
theorem bsl3 {os : List (Option AObj)} {p : Pl} : RowAt Pl.cells 3 (os ++ [some (.cells true p.cells)]) (.slice (some (os.length, 0)) 3 1 1 true) [p] := by
  have := RowAt.of (w := Pl.cells) (k := 3) (l := [p]) (j := 0) (m := 1) (c := 1) (f := true) (fun a => Pl.len a) (os := os ++ [some (.cells true p.cells)]) (i := os.length) (own := true) (by rw [joinEnd, encG_one]) (by simp)
  exact this
theorem slsOf {os : List (Option AObj)} {i : Nat} {own f : Bool} {c : Nat} {vs : List V} {ls : List (List Pl)} (h : (os[i]?).join = some (.cells own vs)) (hl : vs.length = ls.length) (hat : ∀ (j : Nat) (u : V) (l : List Pl), vs[j]? = some u → ls[j]? = some l → RowAt Pl.cells 3 os u l) : SlsAt os (.slice (some (i, 0)) 1 ls.length c f) ls := by
  refine ⟨fun st => rfl, fun j l hj => ?_⟩
  have hlt := (List.getElem?_eq_some_iff.1 hj).1
  obtain ⟨u, hu⟩ : ∃ u, vs[j]? = some u := ⟨_, List.getElem?_eq_getElem (by omega)⟩
  refine ⟨(i, 0 + j * 1), u, idxAddr_slice hlt, joinLt h, ?_, hat j u l hu hj⟩
  rw [load_few h, Nat.zero_add, Nat.mul_one]
  exact hu
def BegunF (call : CallT) (g : Nat) : Prop := ∀ os N v (c : List Pl), OutG Pl.cells 3 os N v c → c.length ≤ 31 → 2 ≤ c.length → (∀ p ∈ c, inP p) → ∃ w os', call g [v] (few os) = some (w, few os') ∧ OutG Pl.cells 3 os' os.length w (begunP c) ∧ (∀ i, i < os.length → (os'[i]?).join = (os[i]?).join) ∧ os.length ≤ os'.length
set_option maxHeartbeats 2000000 in
theorem Begun_run {call : CallT} {lf nI nB nC : Nat} (hI : IndexF 33 call nI) (hB : BetweenF call nB) (hC : ConcatPF call nC) {os : List (Option AObj)} {N : Nat} {v : V} {c : List Pl} (h : OutG Pl.cells 3 os N v c) (hl : c.length ≤ 31) (h2 : 2 ≤ c.length) (hin : ∀ p ∈ c, inP p) :
    ∃ w os', enterF call lf [v] (few os) (begun_c nI nB nC) = some (w, few os') ∧ OutG Pl.cells 3 os' os.length w (begunP c) ∧ (∀ i, i < os.length → (os'[i]?).join = (os[i]?).join) ∧ os.length ≤ os'.length := by
  have main := enter_wp (call := call) (lf := lf) (n := 35) (args := [v]) (st := few os) (K := fun w st => ∃ os', st = few os' ∧ OutG Pl.cells 3 os' os.length w (begunP c) ∧ (∀ i, i < os.length → (os'[i]?).join = (os[i]?).join) ∧ os.length ≤ os'.length) (c := (begun_c nI nB nC).code) (rs := (begun_c nI nB nC).results) ?_
  · obtain ⟨w, st', h1, os', rfl, h2⟩ := main
    exact ⟨w, os', h1, h2⟩
  · have hlen := h.lenV
    have hix := hI os N v c h hl
    obtain ⟨n, hn⟩ : ∃ n, n = c.length := ⟨_, rfl⟩
    have hbase := h.base
    have hpl := h.plain
    have hcell := h.cells
    unfold begun_c
    dsimp only
    unfold begunP
    cases hf : firstOn c with
    | none =>
      rw [hf] at hix
      dsimp only at hix ⊢
      obtain ⟨z, hz⟩ : ∃ z, c[n - 1]? = some z := ⟨_, List.getElem?_eq_getElem (by omega)⟩
      obtain ⟨a, ha⟩ : ∃ a, c[0]? = some a := ⟨_, List.getElem?_eq_getElem (by omega)⟩
      have hz' : c.getLast? = some z := by rw [List.getLast?_eq_getElem?, ← hn]; exact hz
      have ha' : c.head? = some a := by rw [List.head?_eq_getElem?]; exact ha
      rw [hz', ha']
      dsimp only
      obtain ⟨q, _, q2, hv, q3, q4, _⟩ := h.row (fun a => Pl.len a) hz
      obtain ⟨q', _, q2', hv', q3', q4', _⟩ := h.row (fun a => Pl.len a) ha
      have hqq : q' = q := by rw [hv] at hv'; injection hv' with e; injection e with e; injection e with e1 e2; exact e1.symm
      subst hqq
      rw [Nat.zero_mul] at q3' q4'
      have q4 : loadV (few os) true 3 (.ptr (some (q', (n - 1) * 3))) = some z.V := q4
      have q4' : loadV (few os) true 3 (.ptr (some (q', 0))) = some a.V := q4'
      have hb := fun st => hB z a st (hin z (List.mem_of_getElem? hz)) (hin a (List.mem_of_getElem? ha))
      obtain ⟨m, hm⟩ : ∃ m, m = midP z a := ⟨_, rfl⟩
      rw [← hm]
      simp only [← hm] at hb
      rw [← hn] at hlen
      have nn : natOf (.int .i64 ((n : Int) - 1)) = some (n - 1) := (natOf_int (by omega)).trans (congrArg some (by omega))
      have alA : (few os).alloc (.cells true [.int .i64 0, .int .i64 0, .bool false]) = some (os.length, few (os ++ [some (.cells true [.int .i64 0, .int .i64 0, .bool false])])) := few_alloc _ _
      have stA : storeV (few (os ++ [some (.cells true [.int .i64 0, .int .i64 0, .bool false])])) 3 (.ptr (some (os.length, 0))) (some m.cells) = some (V.undef, few (os ++ [some (.cells true m.cells)])) := storeNew rfl rfl
      obtain ⟨A, hA⟩ : ∃ A, A = os ++ [some (AObj.cells true m.cells)] := ⟨_, rfl⟩
      rw [← hA] at stA
      have pV := plV m
      have pc := cellsP m
      have hAl : A.length = os.length + 1 := by rw [hA]; simp
      have hAo : ∀ i, i < os.length → (A[i]?).join = (os[i]?).join := fun i hi => by rw [hA, joinApp hi]
      have hAe : (A[os.length]?).join = some (.cells true m.cells) := by rw [hA, joinEnd]
      have lA : loadV (few A) true 3 (.ptr (some (os.length, 0))) = some (.agg [.int .i64 m.x, .int .i64 m.y, .bool m.on]) := loadAll hAe rfl
      obtain ⟨B, hB'⟩ : ∃ B, B = A ++ [some (AObj.cells true m.cells)] := ⟨_, rfl⟩
      have alB : (few A).alloc (.cells true [.int .i64 m.x, .int .i64 m.y, .bool m.on]) = some (A.length, few B) := by rw [few_alloc, hB']; rfl
      have hBl : B.length = A.length + 1 := by rw [hB']; simp
      have hBo : ∀ i, i < A.length → (B[i]?).join = (A[i]?).join := fun i hi => by rw [hB', joinApp hi]
      have r1 : RowAt Pl.cells 3 B (.slice (some (A.length, 0)) 3 1 1 true) [m] := by rw [hB']; exact bsl3
      have lB : loadV (few B) true 3 (.ptr (some (os.length, 0))) = some (.agg [.int .i64 m.x, .int .i64 m.y, .bool m.on]) := loadAll (by rw [hBo _ (by omega)]; exact hAe) rfl
      obtain ⟨D, hD⟩ : ∃ D, D = B ++ [some (AObj.cells true m.cells)] := ⟨_, rfl⟩
      have alD : (few B).alloc (.cells true [.int .i64 m.x, .int .i64 m.y, .bool m.on]) = some (B.length, few D) := by rw [few_alloc, hD]; rfl
      have hDl : D.length = B.length + 1 := by rw [hD]; simp
      have hDo : ∀ i, i < B.length → (D[i]?).join = (B[i]?).join := fun i hi => by rw [hD, joinApp hi]
      have r3 : RowAt Pl.cells 3 D (.slice (some (B.length, 0)) 3 1 1 true) [m] := by rw [hD]; exact bsl3
      obtain ⟨E, hE⟩ : ∃ E, E = D ++ [some (AObj.cells true [.slice (some (A.length, 0)) 3 1 1 true, v, .slice (some (B.length, 0)) 3 1 1 true])] := ⟨_, rfl⟩
      have alE : (few D).alloc (.cells true [.slice (some (A.length, 0)) 3 1 1 true, v, .slice (some (B.length, 0)) 3 1 1 true]) = some (D.length, few E) := by rw [few_alloc, hE]
      have hEl : E.length = D.length + 1 := by rw [hE]; simp
      have hEo : ∀ i, i < D.length → (E[i]?).join = (D[i]?).join := fun i hi => by rw [hE, joinApp hi]
      have hEe : (E[D.length]?).join = some (.cells true [.slice (some (A.length, 0)) 3 1 1 true, v, .slice (some (B.length, 0)) 3 1 1 true]) := by rw [hE, joinEnd]
      have hEos : ∀ i, i < os.length → (E[i]?).join = (os[i]?).join := fun i hi => by rw [hEo i (by omega), hDo i (by omega), hBo i (by omega), hAo i hi]
      have r2 : RowAt Pl.cells 3 E v c := (h.keepAll hEos).rowAt (fun a => Pl.len a)
      have sls : SlsAt E (.slice (some (D.length, 0)) 1 3 3 true) [[m], c, [m]] := slsOf (ls := [[m], c, [m]]) hEe rfl fun j u l hu hl => by
        match j, hu, hl with
        | 0, hu, hl =>
          cases hu; cases hl
          exact r1.grow (fun i hi => by rw [hEo i (by omega), hDo i (by omega)]) (by omega)
        | 1, hu, hl => cases hu; cases hl; exact r2
        | 2, hu, hl =>
          cases hu; cases hl
          exact r3.grow (fun i hi => hEo i (by omega)) (by omega)
        | j + 3, hu, hl => simp at hu
      have hfl : [[m], c, [m]].flatten = m :: c ++ [m] := by simp
      have cc := hC E _ _ sls (by simp) (by rw [hfl]; simp) (by rw [hfl]; simp; omega)
      rw [hfl] at cc
      obtain ⟨t, ht⟩ : ∃ t, t = (m :: c ++ [m]).length := ⟨_, rfl⟩
      rw [← ht] at cc
      obtain ⟨X, hX⟩ : ∃ X, X = E ++ [some (AObj.cells true (encG Pl.cells (m :: c ++ [m])))] := ⟨_, rfl⟩
      rw [← hX] at cc
      have fin : ∃ os', few X = few os' ∧ OutG Pl.cells 3 os' os.length (.slice (some (E.length, 0)) 3 t t false) (m :: c ++ [m]) ∧ (∀ i, i < os.length → (os'[i]?).join = (os[i]?).join) ∧ os.length ≤ os'.length := by
        refine ⟨X, rfl, .inr ⟨E.length, ⟨by omega, by simp⟩, by rw [ht], by rw [hX, joinEnd]⟩, fun i hi => by rw [hX, joinApp (by omega)]; exact hEos i hi, by rw [hX]; simp; omega⟩
      simp (disch := omega) [hix, wrap_i, dlt_t, hlen, nn, q3, q4, q3', q4', natOf_zero, hb, stA, pV, pc, lA, alB, lB, alD, hcell, alE, cc, load_d, foot_call, foot_alloc, idOf, back_limF, next_limF, alloc_dir, backv, back_back, back_few, next_back]
      exact fin
    | some i =>
      rw [hf] at hix
      dsimp only at hix ⊢
      have hi := firstOn_lt hf
      obtain ⟨p, hp⟩ : ∃ p, c[i]? = some p := ⟨_, List.getElem?_eq_getElem (by omega)⟩
      obtain ⟨q, _, q2, hv, _⟩ := h.row (fun a => Pl.len a) hp
      have hst : (os[q]?).join = some (.cells true (encG Pl.cells c)) := by
        obtain ⟨q', _, e2, e3⟩ := h.made (by intro e; rw [e] at hi; simp at hi)
        rw [hv] at e2
        injection e2 with e; injection e with e; injection e with e1 _
        rw [e1]; exact e3
      have hpos : 0 < c.length := by omega
      have slA : sliceOp (.slice 3) v (some (.int .i64 (i : Int))) none none = some (.slice (some (q, i * 3)) 3 (c.length - i) (c.length - i) false) := by
        rw [hv, slice_lo (by omega), shiftA_some, Nat.zero_add]
      have slB : sliceOp (.slice 3) v none (some (.int .i64 ((i : Int) + 1))) none = some (.slice (some (q, 0)) 3 (i + 1) c.length false) := by
        rw [hv, slice_hiI (by omega) (by omega), shiftA_some]
        rfl
      obtain ⟨E, hE⟩ : ∃ E, E = os ++ [some (AObj.cells true [.slice (some (q, i * 3)) 3 (c.length - i) (c.length - i) false, .slice (some (q, 0)) 3 (i + 1) c.length false])] := ⟨_, rfl⟩
      have alE : (few os).alloc (.cells true [.slice (some (q, i * 3)) 3 (c.length - i) (c.length - i) false, .slice (some (q, 0)) 3 (i + 1) c.length false]) = some (os.length, few E) := by rw [few_alloc, hE]
      have hEl : E.length = os.length + 1 := by rw [hE]; simp
      have hEo : ∀ i, i < os.length → (E[i]?).join = (os[i]?).join := fun i hi => by rw [hE, joinApp hi]
      have hEe : (E[os.length]?).join = some (.cells true [.slice (some (q, i * 3)) 3 (c.length - i) (c.length - i) false, .slice (some (q, 0)) 3 (i + 1) c.length false]) := by rw [hE, joinEnd]
      have hst' : (E[q]?).join = some (.cells true (encG Pl.cells c)) := by rw [hEo q q2]; exact hst
      have r1 : RowAt Pl.cells 3 E (.slice (some (q, i * 3)) 3 (c.length - i) (c.length - i) false) (c.drop i) := by
        have := RowAt.of (w := Pl.cells) (k := 3) (j := i) (m := c.length - i) (c := c.length - i) (f := false) (fun a => Pl.len a) hst' (by omega)
        rw [List.take_of_length_le (by rw [List.length_drop]; omega)] at this
        exact this
      have r2 : RowAt Pl.cells 3 E (.slice (some (q, 0)) 3 (i + 1) c.length false) (c.take (i + 1)) := by
        have := RowAt.of (w := Pl.cells) (k := 3) (j := 0) (m := i + 1) (c := c.length) (f := false) (fun a => Pl.len a) hst' (by omega)
        rw [List.drop_zero, Nat.zero_mul] at this
        exact this
      have sls : SlsAt E (.slice (some (os.length, 0)) 1 2 2 true) [c.drop i, c.take (i + 1)] := slsOf (ls := [c.drop i, c.take (i + 1)]) hEe rfl fun j u l hu hl => by
        match j, hu, hl with
        | 0, hu, hl => cases hu; cases hl; exact r1
        | 1, hu, hl => cases hu; cases hl; exact r2
        | j + 2, hu, hl => simp at hu
      have hfl : [c.drop i, c.take (i + 1)].flatten = c.drop i ++ c.take (i + 1) := by simp
      have hne : c.drop i ++ c.take (i + 1) ≠ [] := by
        intro e
        have := congrArg List.length e
        rw [List.length_append, List.length_drop] at this
        simp at this
        omega
      have cc := hC E _ _ sls (by simp) (by rw [hfl]; exact hne) (by rw [hfl, List.length_append, List.length_drop, List.length_take]; omega)
      rw [hfl] at cc
      obtain ⟨t, ht⟩ : ∃ t, t = (c.drop i ++ c.take (i + 1)).length := ⟨_, rfl⟩
      rw [← ht] at cc
      obtain ⟨X, hX⟩ : ∃ X, X = E ++ [some (AObj.cells true (encG Pl.cells (c.drop i ++ c.take (i + 1))))] := ⟨_, rfl⟩
      rw [← hX] at cc
      have fin : ∃ os', few X = few os' ∧ OutG Pl.cells 3 os' os.length (.slice (some (E.length, 0)) 3 t t false) (c.drop i ++ c.take (i + 1)) ∧ (∀ i, i < os.length → (os'[i]?).join = (os[i]?).join) ∧ os.length ≤ os'.length := by
        refine ⟨X, rfl, .inr ⟨E.length, ⟨by omega, hne⟩, by rw [ht], by rw [hX, joinEnd]⟩, fun i hi => by rw [hX, joinApp (by omega)]; exact hEo i hi, by rw [hX]; simp; omega⟩
      simp (disch := omega) [hix, wrap_i, dlt_f, slA, slB, alE, cc]
      exact fin
theorem BegunF.code {base : CallT} {g lf nI nB nC : Nat} (hI : IndexF 33 base nI) (hB : BetweenF base nB) (hC : ConcatPF base nC) : BegunF (Vabs.withF base g lf (begun_c nI nB nC)) g := fun os N v c h h1 h2 h3 => by
  rw [withF_same]; exact Begun_run hI hB hC h h1 h2 h3
theorem BegunF.withF {call : CallT} {n g lf : Nat} {fn : AFunc} (h : BegunF call n) (hne : n ≠ g) : BegunF (Vabs.withF call g lf fn) n := fun os N v c a b d e => by rw [withF_other hne]; exact h os N v c a b d e

end Go.Vabs.Ke
