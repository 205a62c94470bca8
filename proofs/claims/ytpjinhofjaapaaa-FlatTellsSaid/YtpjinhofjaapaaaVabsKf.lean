/-
  Lines through places.
-/
import Derived.Test.YtpjinhofjaapaaaVabsKe
namespace Go.Vabs.Kf
set_option linter.unusedVariables false
set_option linter.unusedSimpArgs false
set_option maxRecDepth 10000
attribute [local simp] wp_skip wp_ret wp_exit wp_reg wp_seq wp_cond wp_block thenQ_normal thenQ_ret thenQ_exit blockQ_normal blockQ_ret blockQ_exit wpCond_true wpCond_false wpOps_nil wpVal_some wpGuard_true wpGuard_false wpOps_guard wpOps_cons
  put_at put_no ev_c ev_slot posEq_h posEq_o posEq_i posEq_ho posEq_hi posEq_oh posEq_ih posEq_oi posEq_io sel_true sel_false
  okv_some step_mv step_call step_pick pickV_bool step_bin bin_add bin_sub bin_mul bin_eql bin_neq bin_lss bin_leq bin_gtr bin_geq bin_eqb bin_neb bin_eqs bin_nes step_un un_not un_neg step_len len_slice len_str len_const step_extract extractV nth step_convInt conv_int step_convStr step_slice step_idxAddr natOf_nat step_load step_index step_field step_fieldAddr step_build step_minmax
  step_alloc step_bslice bsliceV_some newV_some step_store step_append boolIs_b boolIs_t finQ_ret finQ_normal ressE_nil ressE_cons resE_tmp consO_some initE_nil initE_cons pos_0 pos_1 pos_2 pos_3 pos_4 pos_5 pos_6 pos_7 pos_8 plain_bool plain_int plain_str plain_ptr plain_slice plain_map plain_agg plain_func plain_nilFunc V.undef oneOf_one oneOf_two ble_self
open Go.Vabs.Ph Go.Vabs.Fl Go.Vabs.Ka Go.Vabs.Kb Go.Vabs.Kc Go.Vabs.Kd Go.Vabs.Ke
attribute [local simp] step_nilchk nilchk_ptr step_box cells_int cells_bool cells_str cells_slice cells_ptr cells_agg fieldAddrV natOf_zero fill repN splice over newV
  wp_dreg wpDs_nil wpDs_cons wantedE_none wantedE_some wpDGuard_true wpDGuard_lim wpDGuard_false wpDLim_true wpDVal_free wpDVal_lim back_limited next_limited limF_dir limF_false foot_load foot_convStr okAll_nil okAll_cons pastsOf nthP ahead few_next load_limited okPair_dd okPair_dc okPair_cd okPair_cc anyIn_nil anyIn_same anyIn_cons meets_nil meets_nil' blt_dec
/- LINES -/
structure Sg where
  (a b c d : Int)
def Sg.cells (s : Sg) : List V := [.int .i64 s.a, .int .i64 s.b, .int .i64 s.c, .int .i64 s.d]
theorem Sg.len (s : Sg) : s.cells.length = 4 := rfl
def segP (p q : Pl) : Sg := ⟨p.x, p.y, q.x, q.y⟩
def chordP (a b c : Pl) (k : Int) : Sg := ⟨bentI a.x b.x c.x k, bentI a.y b.y c.y k, bentI a.x b.x c.x (k + 1), bentI a.y b.y c.y (k + 1)⟩
def curveP (a b c : Pl) : List Sg := [chordP a b c 0, chordP a b c 1, chordP a b c 2, chordP a b c 3, chordP a b c 4, chordP a b c 5, chordP a b c 6, chordP a b c 7]
theorem curve_cells (a b c : Pl) : chordsL a.x a.y b.x b.y c.x c.y = encG Sg.cells (curveP a b c) := rfl
theorem lawOut_call {f : Nat → V} {os : List (Option AObj)} {o : AObj} : lawOut (some ([o], f)) (limited .call [] (few os)) = some (f os.length, back (limited .call [] (few os)) (few (os ++ [some o]))) := by
  show (match (match (limited .call [] (few os)).alloc o with | some (_, s) => some s | none => none) with | some st' => some (f (limited .call [] (few os)).next, st') | none => none) = _
  rw [alloc_call rfl]
  rfl
/-- Lines through places: the last one, one that is gone over, or none. -/
def linesGo : List Pl → Pl → Option Pl → List Sg → List Sg
  | [], _, _, out => out
  | p :: l, last, some o, out => let to := if p.on then p else midP o p; linesGo l to (if p.on then none else some p) (out ++ curveP last o to)
  | p :: l, last, none, out => if p.on then linesGo l p none (out ++ [segP last p]) else linesGo l last (some p) out
def linesP : List Pl → List Sg
  | [] => []
  | a :: l => linesGo l a none []
def OverAt (os : List (Option AObj)) (L : Nat) (v : V) : Option Pl → Prop
  | none => v = .slice none 0 0 0 true
  | some o => ∃ q, v = .slice (some (q, 0)) 3 1 1 true ∧ L < q ∧ (os[q]?).join = some (.cells true o.cells)
def LinesF (call : CallT) (g : Nat) : Prop := ∀ os N v (l : List Pl), OutG Pl.cells 3 os N v l → 0 < l.length → l.length ≤ 64 → (∀ p ∈ l, inP p) → ∃ w os', call g [v] (few os) = some (w, few os') ∧ OutG Sg.cells 4 os' os.length w (linesP l) ∧ (∀ i, i < os.length → (os'[i]?).join = (os[i]?).join) ∧ os.length ≤ os'.length
theorem go_len : ∀ (l : List Pl) (a : Pl) (o : Option Pl) (out : List Sg), (linesGo l a o out).length ≤ out.length + 8 * l.length
  | [], a, o, out => by simp [linesGo]
  | p :: l, a, some o, out => by
    have := go_len l (if p.on then p else midP o p) (if p.on then none else some p) (out ++ curveP a o (if p.on then p else midP o p))
    simp only [linesGo, List.length_append, List.length_cons] at this ⊢
    have h8 : (curveP a o (if p.on then p else midP o p)).length = 8 := rfl
    omega
  | p :: l, a, none, out => by
    unfold linesGo
    split
    · have := go_len l p none (out ++ [segP a p])
      simp only [List.length_append, List.length_cons, List.length_nil] at this ⊢
      omega
    · have := go_len l a (some p) out
      simp only [List.length_cons] at this ⊢
      omega
theorem mid_in {p q : Pl} (hp : inP p) (hq : inP q) : inP (midP p q) := by
  obtain ⟨⟨a1, a2⟩, a3, a4⟩ := hp
  obtain ⟨⟨b1, b2⟩, b3, b4⟩ := hq
  refine ⟨⟨?_, ?_⟩, ?_, ?_⟩ <;> simp only [midP] <;> omega
set_option maxHeartbeats 4000000 in
theorem Lines_run {call : CallT} {lf nB nC nS : Nat} (hlf : 64 < lf) (hB : BetweenF call nB) (hC : CurveF call nC) (hS : SegF call nS) {os : List (Option AObj)} {N : Nat} {v : V} {l : List Pl} (h : OutG Pl.cells 3 os N v l) (h0 : 0 < l.length) (hl : l.length ≤ 64) (hin : ∀ p ∈ l, inP p) :
    ∃ w os', enterF call lf [v] (few os) (lines_c nB nC nS) = some (w, few os') ∧ OutG Sg.cells 4 os' os.length w (linesP l) ∧ (∀ i, i < os.length → (os'[i]?).join = (os[i]?).join) ∧ os.length ≤ os'.length := by
  obtain ⟨L, hL⟩ : ∃ L, L = os.length := ⟨_, rfl⟩
  rw [← hL]
  have main := enter_wp (call := call) (lf := lf) (n := 63) (args := [v]) (st := few os) (K := fun w st => ∃ os', st = few os' ∧ OutG Sg.cells 4 os' L w (linesP l) ∧ (∀ i, i < L → (os'[i]?).join = (os[i]?).join) ∧ L ≤ os'.length) (c := (lines_c nB nC nS).code) (rs := (lines_c nB nC nS).results) ?_
  · obtain ⟨w, st', h1, os', rfl, h2⟩ := main
    exact ⟨w, os', h1, h2⟩
  · obtain ⟨a, ha⟩ : ∃ a, l[0]? = some a := ⟨_, List.getElem?_eq_getElem h0⟩
    obtain ⟨q, _, q2, hv, q3, q4, _⟩ := h.row (fun a => Pl.len a) ha
    rw [Nat.zero_mul] at q3 q4
    obtain ⟨n, hn⟩ : ∃ n, n + 1 = l.length := ⟨l.length - 1, by omega⟩
    have alO : (few os).alloc (.cells true [.int .i64 0, .int .i64 0, .bool false]) = some (L, few (os ++ [some (.cells true [.int .i64 0, .int .i64 0, .bool false])])) := by rw [few_alloc, hL]
    have stO : storeV (few (os ++ [some (.cells true [.int .i64 0, .int .i64 0, .bool false])])) 3 (.ptr (some (L, 0))) (some a.cells) = some (V.undef, few (os ++ [some (.cells true a.cells)])) := by rw [hL]; exact storeNew rfl rfl
    obtain ⟨O, hO⟩ : ∃ O, O = os ++ [some (AObj.cells true a.cells)] := ⟨_, rfl⟩
    obtain ⟨O0, hO0⟩ : ∃ O0, O0 = os ++ [some (AObj.cells true [.int .i64 0, .int .i64 0, .bool false])] := ⟨_, rfl⟩
    rw [← hO, ← hO0] at stO
    rw [← hO0] at alO
    have hOl : O.length = L + 1 := by rw [hO, hL]; simp
    have hOo : ∀ i, i < L → (O[i]?).join = (os[i]?).join := fun i hi => by rw [hO, joinApp (by omega)]
    have hOe : (O[L]?).join = some (.cells true a.cells) := by rw [hO, hL, joinEnd]
    have pc := cellsP a
    have sl : sliceOp (.slice 3) v (some (.int .i64 1)) none none = some (.slice (some (q, 3)) 3 n n false) := by
      have := slice_lo (a := some (q, 0)) (e := 3) (n := l.length) (c := l.length) (l := 1) (by omega)
      rw [shiftA_some, Nat.zero_add, Nat.one_mul, show l.length - 1 = n from by omega] at this
      rw [hv]
      exact this
    have hst : (os[q]?).join = some (.cells true (encG Pl.cells l)) := by
      obtain ⟨q', _, e2, e3⟩ := h.made (by intro e; rw [e] at h0; simp at h0)
      rw [hv] at e2
      injection e2 with e; injection e with e; injection e with e1 _
      rw [e1]; exact e3
    unfold lines_c
    dsimp only
    simp [natOf_zero, q3, q4, alO, stO, pc, sl]
    refine wp_loop (fun k s st => ∃ (os' : List (Option AObj)) (j : Nat) (last : Pl) (over : Option Pl) (out : List Sg), st = few os' ∧ j + k = n ∧ s (.i (.o .h)) = .ptr (some (L, 0)) ∧ s (.o (.i (.i .h))) = .slice (some (q, 3)) 3 n n false ∧ s (.i (.i (.i .h))) = .int .i64 (n : Int) ∧ s (.o (.o (.o (.o .h)))) = .int .i64 (j : Int) ∧
        OutG Sg.cells 4 os' (L + 1) (s (.o (.o .h))) out ∧ OverAt os' L (s (.o (.i .h))) over ∧ (os'[L]?).join = some (.cells true last.cells) ∧ inP last ∧ (∀ o, over = some o → inP o) ∧ linesP l = linesGo (l.drop (j + 1)) last over out ∧ out.length ≤ 8 * j ∧ (∀ i, i < L → (os'[i]?).join = (os[i]?).join) ∧ L + 1 ≤ os'.length) n ?_ (by omega) ?_
    · refine ⟨O, 0, a, none, [], rfl, by omega, ?_, ?_, ?_, ?_, .inl ⟨rfl, ?_⟩, ?_, hOe, hin a (List.mem_of_getElem? ha), fun o h => (by cases h), ?_, by simp, hOo, by omega⟩
      all_goals simp [OverAt]
      cases l with
      | nil => simp at h0
      | cons x l =>
        simp at ha
        subst ha
        rfl
    · rintro k s st ⟨os', j, last, over, out, rfl, hk, s1, s2, s3, s4, ho, hov, hla, hin1, hin2, hgo, hol, hold, hle⟩
      obtain ⟨wv, hwv⟩ : ∃ wv, s (.o (.o .h)) = wv := ⟨_, rfl⟩
      obtain ⟨xv, hxv⟩ : ∃ xv, s (.o (.i .h)) = xv := ⟨_, rfl⟩
      rw [hwv] at ho
      rw [hxv] at hov
      cases k with
      | zero =>
        have hj : j = n := by omega
        subst hj
        have hp := ho.plain
        simp (disch := omega) [s1, s2, s3, s4, hwv, dltn_f, hp]
        refine ⟨os', rfl, ?_, hold, by omega⟩
        rw [hgo, List.drop_eq_nil_of_le (by omega)]
        exact ho.lower (by omega)
      | succ k =>
        obtain ⟨p, hp⟩ : ∃ p, l[j + 1]? = some p := ⟨_, List.getElem?_eq_getElem (by omega)⟩
        have hpin := hin p (List.mem_of_getElem? hp)
        have hdrop : l.drop (j + 1) = p :: l.drop (j + 1 + 1) := by
          rw [List.drop_eq_getElem_cons (by omega)]
          congr 1
          exact (List.getElem?_eq_some_iff.1 hp).2
        rw [hdrop] at hgo
        have ix : idxAddrV (.slice 3) (.slice (some (q, 3)) 3 n n false) (some j) = some (.ptr (some (q, 3 + j * 3))) := idxAddr_slice (by omega)
        have ld : loadV (few os') true 3 (.ptr (some (q, 3 + j * 3))) = some (.agg p.cells) := by
          have := load_row (j := j + 1) (fun a => Pl.len a) (show (os'[q]?).join = some (.cells true (encG Pl.cells l)) by rw [hold q (by omega)]; exact hst) hp
          rw [show (j + 1) * 3 = 3 + j * 3 from by omega] at this
          exact this
        have pcp := cellsP p
        -- two copies
        have al1 : (few os').alloc (.cells true [.int .i64 0, .int .i64 0, .bool false]) = some (os'.length, few (os' ++ [some (.cells true [.int .i64 0, .int .i64 0, .bool false])])) := few_alloc _ _
        have st1 : storeV (few (os' ++ [some (.cells true [.int .i64 0, .int .i64 0, .bool false])])) 3 (.ptr (some (os'.length, 0))) (some p.cells) = some (V.undef, few (os' ++ [some (.cells true p.cells)])) := storeNew rfl rfl
        obtain ⟨A, hA⟩ : ∃ A, A = os' ++ [some (AObj.cells true p.cells)] := ⟨_, rfl⟩
        obtain ⟨A0, hA0⟩ : ∃ A0, A0 = os' ++ [some (AObj.cells true [.int .i64 0, .int .i64 0, .bool false])] := ⟨_, rfl⟩
        rw [← hA, ← hA0] at st1
        rw [← hA0] at al1
        have hAl : A.length = os'.length + 1 := by rw [hA]; simp
        have hAo : ∀ i, i < os'.length → (A[i]?).join = (os'[i]?).join := fun i hi => by rw [hA, joinApp hi]
        have hAe : (A[os'.length]?).join = some (.cells true p.cells) := by rw [hA, joinEnd]
        have lA : loadV (few A) true 3 (.ptr (some (os'.length, 0))) = some (.agg p.cells) := loadAll hAe rfl
        have al2 : (few A).alloc (.cells true [.int .i64 0, .int .i64 0, .bool false]) = some (A.length, few (A ++ [some (.cells true [.int .i64 0, .int .i64 0, .bool false])])) := few_alloc _ _
        have st2 : storeV (few (A ++ [some (.cells true [.int .i64 0, .int .i64 0, .bool false])])) 3 (.ptr (some (A.length, 0))) (some p.cells) = some (V.undef, few (A ++ [some (.cells true p.cells)])) := storeNew rfl rfl
        obtain ⟨B, hB'⟩ : ∃ B, B = A ++ [some (AObj.cells true p.cells)] := ⟨_, rfl⟩
        obtain ⟨B0, hB0⟩ : ∃ B0, B0 = A ++ [some (AObj.cells true [.int .i64 0, .int .i64 0, .bool false])] := ⟨_, rfl⟩
        rw [← hB', ← hB0] at st2
        rw [← hB0] at al2
        have hBl : B.length = A.length + 1 := by rw [hB']; simp
        have hBo : ∀ i, i < A.length → (B[i]?).join = (A[i]?).join := fun i hi => by rw [hB', joinApp hi]
        have lon : ∀ X : List (Option AObj), (X[os'.length]?).join = some (.cells true p.cells) → loadV (few X) false 1 (.ptr (some (os'.length, 2))) = some (.bool p.on) := fun X hX => (load_few hX).trans rfl
        have hB1 : (B[os'.length]?).join = some (.cells true p.cells) := by rw [hBo _ (by omega)]; exact hAe
        have lonB := lon B hB1
        have lB1 : loadV (few B) true 3 (.ptr (some (os'.length, 0))) = some (.agg p.cells) := loadAll hB1 rfl
        have hBL : (B[L]?).join = some (.cells true last.cells) := by rw [hBo _ (by omega), hAo _ (by omega)]; exact hla
        have lBL : loadV (few B) true 3 (.ptr (some (L, 0))) = some (.agg last.cells) := loadAll hBL rfl
        have hBos : ∀ i, i < os'.length → (B[i]?).join = (os'[i]?).join := fun i hi => by rw [hBo i (by omega), hAo i hi]
        have hoB : OutG Sg.cells 4 B (L + 1) wv out := ho.keepAll hBos
        cases over with
        | none =>
          have hov : xv = .slice none 0 0 0 true := hov
          subst hov
          cases hon : p.on with
          | false =>
            rw [hon] at lonB
            have px : p.cells = [.int .i64 p.x, .int .i64 p.y, .bool false] := by unfold Pl.cells; rw [hon]
            obtain ⟨G, hG⟩ : ∃ G, G = B ++ [some (AObj.cells true p.cells)] := ⟨_, rfl⟩
            have alG : (few B).alloc (.cells true [.int .i64 p.x, .int .i64 p.y, .bool false]) = some (B.length, few G) := by rw [few_alloc, hG, px]
            have hGo : ∀ i, i < B.length → (G[i]?).join = (B[i]?).join := fun i hi => by rw [hG, joinApp hi]
            have hGl : G.length = B.length + 1 := by rw [hG]; simp
            rw [px] at lB1
            simp (disch := omega) [s1, s2, s3, s4, hwv, hxv, dltn_t, natOf_j, ix, ld, al1, st1, lA, al2, st2, pcp, lonB, lB1, alG, wrap_i]
            refine ⟨k, by omega, G, rfl, j + 1, by omega, by omega, last, some p, out, hoB.keepAll (fun i hi => hGo i hi), ⟨B.length, rfl, by omega, by rw [hG, joinEnd]⟩, by rw [hGo _ (by omega)]; exact hBL, hin1, fun o ho => by cases ho; exact hpin, ?_, by omega, fun i hi => by rw [hGo i (by omega), hBos i (by omega), hold i hi], by omega⟩
            rw [hgo]
            simp [linesGo, hon]
          | true =>
            rw [hon] at lonB
            have hsg := fun st => hS last.x last.y p.x p.y last.on p.on st
            have hsg : ∀ st, call nS [.agg last.cells, .agg p.cells] st = some (.agg [.int .i64 last.x, .int .i64 last.y, .int .i64 p.x, .int .i64 p.y], st) := hsg
            obtain ⟨D, hD⟩ : ∃ D, D = B ++ [some (AObj.cells true [.int .i64 last.x, .int .i64 last.y, .int .i64 p.x, .int .i64 p.y])] := ⟨_, rfl⟩
            have hDl : D.length = B.length + 1 := by rw [hD]; simp
            have hDo : ∀ i, i < B.length → (D[i]?).join = (B[i]?).join := fun i hi => by rw [hD, joinApp hi]
            have hDe : (D[B.length]?).join = some (.cells true (segP last p).cells) := by rw [hD, joinEnd]; rfl
            have fr := firstRow (f := true) (fun a => Sg.len a) hDe
            have hoD : OutG Sg.cells 4 D (L + 1) wv out := hoB.keepAll hDo
            obtain ⟨wv', E, g1, g2, g3, g4⟩ := hoD.grow1 (fun a => Sg.len a) (nb := [segP last p]) (bytes := 32) (by simp) (by simp; omega)
            have g1 : appendV (few D) 4 32 wv (some 1) (some (encG Sg.cells [segP last p])) = some (wv', few E) := g1
            have hEo : ∀ i, i < D.length → (∀ o e n c f, wv = .slice (some (i, o)) e n c f → False) → (E[i]?).join = (D[i]?).join := fun i hi hq => g3 i hi fun q o e n c f h1 h2 => by subst h2; exact hq _ _ _ _ _ h1
            have hwb : blw os'.length wv := ho.blw
            have hE1 : (E[os'.length]?).join = some (.cells true p.cells) := by
              rw [hEo _ (by omega) (fun o e n c f hq => by have := hwb _ _ _ _ _ _ hq; omega), hDo _ (by omega)]; exact hB1
            have lE1 : loadV (few E) true 3 (.ptr (some (os'.length, 0))) = some (.agg p.cells) := loadAll hE1 rfl
            have hEL : (E[L]?).join = some (.cells true last.cells) := by
              rw [hEo _ (by omega) (fun o e n c f hq => by have := ho.above hq; omega), hDo _ (by omega)]; exact hBL
            have stE := storeAll (k := 3) (cs := p.cells) hEL rfl (show p.cells.length = 3 from rfl)
            obtain ⟨F, hF⟩ : ∃ F, F = E.set L (some (.cells true p.cells)) := ⟨_, rfl⟩
            rw [← hF] at stE
            have hFL : (F[L]?).join = some (.cells true p.cells) := by rw [hF]; exact joinSame (joinLt hEL)
            have hFo : ∀ i, i ≠ L → (F[i]?).join = (E[i]?).join := fun i hi => by rw [hF]; exact joinSet (fun h => hi h.symm)
            have hF1 : (F[os'.length]?).join = some (.cells true p.cells) := by rw [hFo _ (by omega)]; exact hE1
            have lonF := lon F hF1
            rw [hon] at lonF
            have fin : ∃ m, m < k + 1 ∧ ∃ os'', few F = few os'' ∧ ∃ x : Nat, x + m = n ∧ (j : Int) + 1 = (x : Int) ∧ ∃ (last' : Pl) (over' : Option Pl) (out' : List Sg), OutG Sg.cells 4 os'' (L + 1) wv' out' ∧ OverAt os'' L (.slice none 0 0 0 true) over' ∧ (os''[L]?).join = some (.cells true last'.cells) ∧ inP last' ∧ (∀ o, over' = some o → inP o) ∧ linesP l = linesGo (l.drop (x + 1)) last' over' out' ∧ out'.length ≤ 8 * x ∧ (∀ i, i < L → (os''[i]?).join = (os[i]?).join) ∧ L + 1 ≤ os''.length := by
              refine ⟨k, by omega, F, rfl, j + 1, by omega, by omega, p, none, out ++ [segP last p], (g2.lower (by omega)).keep (fun i hi hL' => hFo i (by omega)), rfl, hFL, hpin, fun o h => (by cases h), ?_, by simp; omega, fun i hi => ?_, by rw [hF, List.length_set]; omega⟩
              · rw [hgo]
                simp [linesGo, hon]
              · rw [hFo i (by omega), hEo i (by omega) (fun o e n c f hq => by have := ho.above hq; omega), hDo i (by omega), hBos i (by omega), hold i hi]
            have hwl : blw os'.length wv := hwb
            rcases ho with ⟨_, hw⟩ | ⟨qw, hw1, hw, _⟩
            · rw [hw] at g1
              rw [hw] at hwv
              simp (disch := omega) [s1, s2, s3, s4, hwv, hxv, dltn_t, natOf_j, ix, ld, al1, st1, lA, al2, st2, pcp, lonB, lB1, lBL, hsg, ← hD, lenOf_sl, firstNo_some, fr, g1, lE1, stE, lonF, load_d, first_d1, first_d2, append_d1, append_d2, foot_call, foot_bslice, foot_append, foot_load, idOf, alloc_dir, backv, back_back, back_few, next_back, back_limF, next_limF, meets_cons, mem_cons, mem_nil, nbeq_dec, ble_dec, deqn_f, dlen_f, wrap_i]
              exact fin
            · have hq1 := hw1.1
              have hq2 := hwb _ _ _ _ _ _ hw
              rw [hw] at g1
              rw [hw] at hwv
              simp (disch := omega) [s1, s2, s3, s4, hwv, hxv, dltn_t, natOf_j, ix, ld, al1, st1, lA, al2, st2, pcp, lonB, lB1, lBL, hsg, ← hD, lenOf_sl, firstNo_some, fr, g1, lE1, stE, lonF, load_d, first_d1, first_d2, append_d1, append_d2, foot_call, foot_bslice, foot_append, foot_load, idOf, alloc_dir, backv, back_back, back_few, next_back, back_limF, next_limF, meets_cons, mem_cons, mem_nil, nbeq_dec, ble_dec, deqn_f, dlen_f, wrap_i]
              exact fin
        | some o =>
          obtain ⟨qo, hxe, hqo, hso⟩ : ∃ q, xv = .slice (some (q, 0)) 3 1 1 true ∧ L < q ∧ (os'[q]?).join = some (.cells true o.cells) := hov
          subst hxe
          have hoin := hin2 o rfl
          have ix0 : idxAddrV (.slice 3) (.slice (some (qo, 0)) 3 1 1 true) (some 0) = some (.ptr (some (qo, 0))) := idxAddr_slice (by omega)
          have hqol := joinLt hso
          have hBo' : (B[qo]?).join = some (.cells true o.cells) := by rw [hBos qo hqol]; exact hso
          have lBo : loadV (few B) true 3 (.ptr (some (qo, 0))) = some (.agg o.cells) := loadAll hBo' rfl
          have hbt : ∀ st, call nB [.agg o.cells, .agg p.cells] st = some ((midP o p).V, st) := fun st => hB o p st hoin hpin
          have stM : storeV (few B) 3 (.ptr (some (A.length, 0))) (some (midP o p).cells) = some (V.undef, few (A ++ [some (.cells true (midP o p).cells)])) := by rw [hB']; exact storeNew rfl rfl
          obtain ⟨to, T, hto, hTl, hTo, hT2, htin, hT⟩ : ∃ (to : Pl) (T : List (Option AObj)), to = (if p.on then p else midP o p) ∧ T.length = B.length ∧ (∀ i, i < A.length → (T[i]?).join = (B[i]?).join) ∧ (T[A.length]?).join = some (.cells true to.cells) ∧ inP to ∧ ((p.on = true → T = B) ∧ (p.on = false → T = A ++ [some (.cells true (midP o p).cells)])) := by
            cases hon : p.on with
            | true => exact ⟨p, B, rfl, rfl, fun _ _ => rfl, by rw [hB', joinEnd], hpin, fun _ => rfl, fun h => (by cases h)⟩
            | false => exact ⟨midP o p, A ++ [some (.cells true (midP o p).cells)], rfl, by rw [hB']; simp, fun i hi => by rw [hB', joinApp hi, joinApp hi], by rw [joinEnd], mid_in hoin hpin, fun h => (by cases h), fun _ => rfl⟩
          have hTBs : ∀ i, i < os'.length → (T[i]?).join = (os'[i]?).join := fun i hi => by rw [hTo i (by omega), hBos i hi]
          have hTL : (T[L]?).join = some (.cells true last.cells) := by rw [hTo _ (by omega)]; exact hBL
          have lTL : loadV (few T) true 3 (.ptr (some (L, 0))) = some (.agg last.cells) := loadAll hTL rfl
          have lTo : loadV (few T) true 3 (.ptr (some (qo, 0))) = some (.agg o.cells) := loadAll (by rw [hTo _ (by omega)]; exact hBo') rfl
          have lT2 : loadV (few T) true 3 (.ptr (some (A.length, 0))) = some (.agg to.cells) := loadAll hT2 rfl
          have hT1 : (T[os'.length]?).join = some (.cells true p.cells) := by rw [hTo _ (by omega)]; exact hB1
          have hcur : ∀ st, call nC [.agg last.cells, .agg o.cells, .agg to.cells] st = lawOut (some ([.cells true (encG Sg.cells (curveP last o to))], fun k => .slice (some (k, 0)) 4 8 8 false)) st := fun st => hC last.x last.y o.x o.y to.x to.y last.on o.on to.on st hin1.1 hin1.2 hoin.1 hoin.2 htin.1 htin.2
          have hlc : (curveP last o to).length = 8 := rfl
          obtain ⟨cu, hcu⟩ : ∃ cu, cu = curveP last o to := ⟨_, rfl⟩
          rw [← hcu] at hlc
          simp only [← hcu] at hcur
          obtain ⟨D, hD⟩ : ∃ D, D = T ++ [some (AObj.cells true (encG Sg.cells cu))] := ⟨_, rfl⟩
          have hDl : D.length = T.length + 1 := by rw [hD]; simp
          have hDo : ∀ i, i < T.length → (D[i]?).join = (T[i]?).join := fun i hi => by rw [hD, joinApp hi]
          have hDe : (D[T.length]?).join = some (.cells true (encG Sg.cells cu)) := by rw [hD, joinEnd]
          have fr : firstN (few D) 4 8 (.slice (some (T.length, 0)) 4 8 8 false) = some (encG Sg.cells cu) := by
            have := OutG.first (w := Sg.cells) (k := 4) (os := D) (N := 0) (v := .slice (some (T.length, 0)) 4 cu.length cu.length false) (l := cu) (fun a => Sg.len a) (.inr ⟨T.length, ⟨Nat.zero_le _, by intro e; rw [e] at hlc; simp at hlc⟩, rfl, hDe⟩)
            rw [hlc] at this
            exact this
          have hoD : OutG Sg.cells 4 D (L + 1) wv out := ho.keepAll fun i hi => by rw [hDo i (by omega), hTBs i hi]
          obtain ⟨wv', E, g1, g2, g3, g4⟩ := hoD.grow1 (fun a => Sg.len a) (nb := cu) (bytes := 32) (by intro e; rw [e] at hlc; simp at hlc) (by omega)
          rw [hlc] at g1
          have hEo : ∀ i, i < D.length → (∀ o e n c f, wv = .slice (some (i, o)) e n c f → False) → (E[i]?).join = (D[i]?).join := fun i hi hq => g3 i hi fun q o e n c f h1 h2 => by subst h2; exact hq _ _ _ _ _ h1
          have hwb : blw os'.length wv := ho.blw
          have hE1 : (E[os'.length]?).join = some (.cells true p.cells) := by
            rw [hEo _ (by omega) (fun o e n c f hq => by have := hwb _ _ _ _ _ _ hq; omega), hDo _ (by omega)]; exact hT1
          have hE2 : (E[A.length]?).join = some (.cells true to.cells) := by
            rw [hEo _ (by omega) (fun o e n c f hq => by have := hwb _ _ _ _ _ _ hq; omega), hDo _ (by omega)]; exact hT2
          have lE2 : loadV (few E) true 3 (.ptr (some (A.length, 0))) = some (.agg to.cells) := loadAll hE2 rfl
          have hEL : (E[L]?).join = some (.cells true last.cells) := by
            rw [hEo _ (by omega) (fun o e n c f hq => by have := ho.above hq; omega), hDo _ (by omega)]; exact hTL
          have stE := storeAll (k := 3) (cs := to.cells) hEL rfl (show to.cells.length = 3 from rfl)
          have pct := cellsP to
          obtain ⟨F, hF⟩ : ∃ F, F = E.set L (some (.cells true to.cells)) := ⟨_, rfl⟩
          rw [← hF] at stE
          have hFl : F.length = E.length := by rw [hF, List.length_set]
          have hFL : (F[L]?).join = some (.cells true to.cells) := by rw [hF]; exact joinSame (joinLt hEL)
          have hFo : ∀ i, i ≠ L → (F[i]?).join = (E[i]?).join := fun i hi => by rw [hF]; exact joinSet (fun h => hi h.symm)
          have hF1 : (F[os'.length]?).join = some (.cells true p.cells) := by rw [hFo _ (by omega)]; exact hE1
          have lonF := lon F hF1
          have lF1 : loadV (few F) true 3 (.ptr (some (os'.length, 0))) = some (.agg p.cells) := loadAll hF1 rfl
          have hFold : ∀ i, i < L → (F[i]?).join = (os[i]?).join := fun i hi => by
            rw [hFo i (by omega), hEo i (by omega) (fun o e n c f hq => by have := ho.above hq; omega), hDo i (by omega), hTBs i (by omega), hold i hi]
          have hoF : OutG Sg.cells 4 F (L + 1) wv' (out ++ cu) := (g2.lower (by omega)).keep (fun i hi hL' => hFo i (by omega))
          have pm := plV (midP o p)
          cases hon : p.on with
          | true =>
            have hTB := hT.1 hon
            rw [hTB] at lTL lTo lT2 hD fr
            rw [hon] at lonB lonF
            have hto' : to = p := by rw [hto, hon]; rfl
            have fin : ∃ m, m < k + 1 ∧ ∃ os'', few F = few os'' ∧ ∃ x : Nat, x + m = n ∧ (j : Int) + 1 = (x : Int) ∧ ∃ (last' : Pl) (over' : Option Pl) (out' : List Sg), OutG Sg.cells 4 os'' (L + 1) wv' out' ∧ OverAt os'' L (.slice none 0 0 0 true) over' ∧ (os''[L]?).join = some (.cells true last'.cells) ∧ inP last' ∧ (∀ o, over' = some o → inP o) ∧ linesP l = linesGo (l.drop (x + 1)) last' over' out' ∧ out'.length ≤ 8 * x ∧ (∀ i, i < L → (os''[i]?).join = (os[i]?).join) ∧ L + 1 ≤ os''.length := by
              refine ⟨k, by omega, F, rfl, j + 1, by omega, by omega, to, none, out ++ cu, hoF, rfl, hFL, htin, fun o h => (by cases h), ?_, by simp; omega, hFold, by omega⟩
              rw [hgo, hcu, hto']
              simp [linesGo, hon]
            rcases ho with ⟨_, hw⟩ | ⟨qw, hw1, hw, _⟩
            · rw [hw] at g1
              rw [hw] at hwv
              simp (disch := omega) [s1, s2, s3, s4, hwv, hxv, dltn_t, natOf_j, natOf_zero, ix, ix0, ld, al1, st1, lA, al2, st2, pcp, pct, lonB, lB1, lBL, lBo, lTL, lTo, lT2, hcur, lawOut_call, ← hD, lenOf_sl, firstNo_some, fr, g1, lE2, stE, lonF, load_d, first_d1, first_d2, append_d1, append_d2, foot_call, foot_bslice, foot_append, foot_load, idOf, alloc_dir, backv, back_back, back_few, next_back, back_limF, next_limF, meets_cons, mem_cons, mem_nil, nbeq_dec, ble_dec, deqn_f, dlen_f, dltn_f, wrap_i]
              exact fin
            · have hq1 := hw1.1
              have hq2 := hwb _ _ _ _ _ _ hw
              rw [hw] at g1
              rw [hw] at hwv
              simp (disch := omega) [s1, s2, s3, s4, hwv, hxv, dltn_t, natOf_j, natOf_zero, ix, ix0, ld, al1, st1, lA, al2, st2, pcp, pct, lonB, lB1, lBL, lBo, lTL, lTo, lT2, hcur, lawOut_call, ← hD, lenOf_sl, firstNo_some, fr, g1, lE2, stE, lonF, load_d, first_d1, first_d2, append_d1, append_d2, foot_call, foot_bslice, foot_append, foot_load, idOf, alloc_dir, backv, back_back, back_few, next_back, back_limF, next_limF, meets_cons, mem_cons, mem_nil, nbeq_dec, ble_dec, deqn_f, dlen_f, dltn_f, wrap_i]
              exact fin
          | false =>
            have hTB := hT.2 hon
            rw [← hTB] at stM
            rw [hon] at lonB lonF
            have hto' : to = midP o p := by rw [hto, hon]; rfl
            have px : p.cells = [.int .i64 p.x, .int .i64 p.y, .bool false] := by unfold Pl.cells; rw [hon]
            obtain ⟨G, hG⟩ : ∃ G, G = F ++ [some (AObj.cells true p.cells)] := ⟨_, rfl⟩
            have alG : (few F).alloc (.cells true [.int .i64 p.x, .int .i64 p.y, .bool false]) = some (F.length, few G) := by rw [few_alloc, hG, px]
            have hGo : ∀ i, i < F.length → (G[i]?).join = (F[i]?).join := fun i hi => by rw [hG, joinApp hi]
            have hGl : G.length = F.length + 1 := by rw [hG]; simp
            rw [px] at lF1
            have fin : ∃ m, m < k + 1 ∧ ∃ os'', few G = few os'' ∧ ∃ x : Nat, x + m = n ∧ (j : Int) + 1 = (x : Int) ∧ ∃ (last' : Pl) (over' : Option Pl) (out' : List Sg), OutG Sg.cells 4 os'' (L + 1) wv' out' ∧ OverAt os'' L (.slice (some (F.length, 0)) 3 1 1 true) over' ∧ (os''[L]?).join = some (.cells true last'.cells) ∧ inP last' ∧ (∀ o, over' = some o → inP o) ∧ linesP l = linesGo (l.drop (x + 1)) last' over' out' ∧ out'.length ≤ 8 * x ∧ (∀ i, i < L → (os''[i]?).join = (os[i]?).join) ∧ L + 1 ≤ os''.length := by
              refine ⟨k, by omega, G, rfl, j + 1, by omega, by omega, to, some p, out ++ cu, hoF.keepAll hGo, ⟨F.length, rfl, by omega, by rw [hG, joinEnd]⟩, by rw [hGo _ (by omega)]; exact hFL, htin, fun o h => by cases h; exact hpin, ?_, by simp; omega, fun i hi => by rw [hGo i (by omega)]; exact hFold i hi, by omega⟩
              rw [hgo, hcu, hto']
              simp [linesGo, hon]
            rcases ho with ⟨_, hw⟩ | ⟨qw, hw1, hw, _⟩
            · rw [hw] at g1
              rw [hw] at hwv
              simp (disch := omega) [s1, s2, s3, s4, hwv, hxv, dltn_t, natOf_j, natOf_zero, ix, ix0, ld, al1, st1, lA, al2, st2, pcp, pct, lonB, lB1, lBL, lBo, hbt, stM, pm, lF1, alG, lTL, lTo, lT2, hcur, lawOut_call, ← hD, lenOf_sl, firstNo_some, fr, g1, lE2, stE, lonF, load_d, first_d1, first_d2, append_d1, append_d2, foot_call, foot_bslice, foot_append, foot_load, idOf, alloc_dir, backv, back_back, back_few, next_back, back_limF, next_limF, meets_cons, mem_cons, mem_nil, nbeq_dec, ble_dec, deqn_f, dlen_f, dltn_f, wrap_i]
              exact fin
            · have hq1 := hw1.1
              have hq2 := hwb _ _ _ _ _ _ hw
              rw [hw] at g1
              rw [hw] at hwv
              simp (disch := omega) [s1, s2, s3, s4, hwv, hxv, dltn_t, natOf_j, natOf_zero, ix, ix0, ld, al1, st1, lA, al2, st2, pcp, pct, lonB, lB1, lBL, lBo, hbt, stM, pm, lF1, alG, lTL, lTo, lT2, hcur, lawOut_call, ← hD, lenOf_sl, firstNo_some, fr, g1, lE2, stE, lonF, load_d, first_d1, first_d2, append_d1, append_d2, foot_call, foot_bslice, foot_append, foot_load, idOf, alloc_dir, backv, back_back, back_few, next_back, back_limF, next_limF, meets_cons, mem_cons, mem_nil, nbeq_dec, ble_dec, deqn_f, dlen_f, dltn_f, wrap_i]
              exact fin
theorem LinesF.code {base : CallT} {g lf nB nC nS : Nat} (hlf : 64 < lf) (hB : BetweenF base nB) (hC : CurveF base nC) (hS : SegF base nS) : LinesF (Vabs.withF base g lf (lines_c nB nC nS)) g := fun os N v l h h0 h1 h2 => by
  rw [withF_same]; exact Lines_run hlf hB hC hS h h0 h1 h2
theorem LinesF.withF {call : CallT} {n g lf : Nat} {fn : AFunc} (h : LinesF call n) (hne : n ≠ g) : LinesF (Vabs.withF call g lf fn) n := fun os N v l a b d e => by rw [withF_other hne]; exact h os N v l a b d e

end Go.Vabs.Kf
