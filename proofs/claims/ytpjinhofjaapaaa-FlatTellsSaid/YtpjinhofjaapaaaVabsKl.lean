/-
  FlatTells' run.
-/
import Derived.Test.YtpjinhofjaapaaaVabsKk
import Derived.Test.YtpjinhofjaapaaaVabsKh
import Derived.Test.YtpjinhofjaapaaaVabsZj
namespace Go.Vabs.Kl
set_option linter.unusedVariables false
set_option linter.unusedSimpArgs false
set_option maxRecDepth 10000
def FlatTells_c (n_Contours : Nat) (n_affine : Nat) (n_one : Nat) (n_known : Nat) (n_Segs : Nat) (n_RSegs : Nat) (n_SameSegs : Nat) (n_Curve : Nat) (n_RCurve : Nat) : AFunc := AFunc.mk 58 (.seq (.reg [AOper.mk (some (.i (.o (.o .h)))) (.box (.t (.o .h))) none, AOper.mk (some (.i (.i (.o .h)))) (.box (.t (.o (.o .h)))) none, AOper.mk (some (.o (.o (.i .h)))) (.box (.t (.i (.o .h)))) none, AOper.mk (some (.i (.o (.i .h)))) (.box (.t (.o (.i .h)))) none, AOper.mk (some (.i (.i (.i .h)))) (.mv (.c (.bool false))) none]) (.seq (.reg [AOper.mk (some (.i (.i (.o (.o .h))))) (.call n_Contours [.t .h]) none, AOper.mk (some (.o (.o (.o (.o .h))))) (.mv (.t (.i (.i (.o (.o .h)))))) none]) (.seq (.reg [AOper.mk (some (.o (.o (.i (.o .h))))) (.load true 6 (.t (.i (.o (.o .h))))) none, AOper.mk (some (.i (.o (.i (.o .h))))) (.call n_affine [.t (.o (.o (.i (.o .h))))]) none, AOper.mk (some (.i (.o (.o (.o .h))))) (.alloc [.int .i64 (.ofNat 0), .int .i64 (.ofNat 0), .int .i64 (.ofNat 0), .int .i64 (.ofNat 0), .int .i64 (.ofNat 0), .int .i64 (.ofNat 0)]) none, AOper.mk none (.store 6 (.t (.i (.o (.o (.o .h))))) (.t (.i (.o (.i (.o .h)))))) none]) (.seq (.seq (.reg [AOper.mk (some (.o (.i (.i (.o .h))))) (.mv (.t (.i .h))) none]) (.cond (.t (.o (.i (.i (.o .h))))) (.reg [AOper.mk (some (.i (.i (.i (.o .h))))) (.call n_one []) none, AOper.mk none (.store 6 (.t (.i (.o (.o (.o .h))))) (.t (.i (.i (.i (.o .h)))))) none]) .skip)) (.seq (.seq (.reg [AOper.mk (some (.i (.o (.o (.i .h))))) (.bin .rem (.val .int) (.t (.i (.i .h))) (.c (.int .i64 (.ofNat 7)))) none, AOper.mk (some (.o (.i (.o (.i .h))))) (.bin .eql (.val .int) (.t (.i (.o (.o (.i .h))))) (.c (.int .i64 (.ofNat 6)))) none, AOper.mk (some (.i (.i (.o (.i .h))))) (.mv (.t (.o (.i (.o (.i .h)))))) none, AOper.mk (some (.i (.o (.i (.i .h))))) (.len .slice (.t (.o (.o (.o (.o .h)))))) (some (.i (.i (.o (.i .h))), true)), AOper.mk (some (.o (.i (.i (.i .h))))) (.bin .gtr (.val .int) (.t (.i (.o (.i (.i .h))))) (.c (.int .i64 (.ofNat 0)))) (some (.i (.i (.o (.i .h))), true)), AOper.mk (some (.i (.i (.i (.i .h))))) (.pick (.t (.i (.i (.o (.i .h))))) (.t (.o (.i (.i (.i .h))))) (.c (.bool false))) none]) (.cond (.t (.i (.i (.i (.i .h))))) (.reg [AOper.mk (some (.i (.o (.o (.o (.o .h)))))) (.idxAddr (.slice 1) (.t (.o (.o (.o (.o .h))))) (.c (.int .i64 (.ofNat 0)))) none, AOper.mk (some (.o (.i (.o (.o (.o .h)))))) (.load false 1 (.t (.i (.o (.o (.o (.o .h))))))) none, AOper.mk (some (.o (.o (.i (.o (.o .h)))))) (.idxAddr (.slice 3) (.t (.o (.i (.o (.o (.o .h)))))) (.c (.int .i64 (.ofNat 0)))) none, AOper.mk (some (.i (.o (.i (.o (.o .h)))))) (.fieldAddr 0 (.t (.o (.o (.i (.o (.o .h))))))) none, AOper.mk none (.store 1 (.t (.i (.o (.i (.o (.o .h)))))) (.t (.i (.i .h)))) none]) .skip)) (.seq (.dreg [(AOper.mk (some (.o (.i (.i (.o (.o .h)))))) (.call n_known []) none, []), (AOper.mk (some (.i (.i (.i (.o (.o .h)))))) (.mv (.t (.o (.i (.i (.o (.o .h))))))) none, []), (AOper.mk (some (.o (.o (.o (.i (.o .h)))))) (.mv (.t (.o (.o (.o (.o .h)))))) (some (.i (.i (.i (.o (.o .h)))), true)), []), (AOper.mk (some (.i (.o (.o (.i (.o .h)))))) (.load true 6 (.t (.i (.o (.o (.o .h)))))) (some (.i (.i (.i (.o (.o .h)))), true)), [6]), (AOper.mk (some (.o (.i (.o (.i (.o .h)))))) (.call n_Segs [.t (.o (.o (.o (.i (.o .h))))), .t (.i (.o (.o (.i (.o .h)))))]) (some (.i (.i (.i (.o (.o .h)))), true)), [6]), (AOper.mk (some (.i (.i (.o (.i (.o .h)))))) (.mv (.t (.o (.o (.o (.o .h)))))) (some (.i (.i (.i (.o (.o .h)))), true)), []), (AOper.mk (some (.o (.o (.i (.i (.o .h)))))) (.load true 6 (.t (.i (.o (.o (.o .h)))))) (some (.i (.i (.i (.o (.o .h)))), true)), [3, 4]), (AOper.mk (some (.i (.o (.i (.i (.o .h)))))) (.call n_RSegs [.t (.i (.i (.o (.i (.o .h))))), .t (.o (.o (.i (.i (.o .h)))))]) (some (.i (.i (.i (.o (.o .h)))), true)), []), (AOper.mk (some (.o (.i (.i (.i (.o .h)))))) (.call n_SameSegs [.t (.o (.i (.o (.i (.o .h))))), .t (.i (.o (.i (.i (.o .h)))))]) (some (.i (.i (.i (.o (.o .h)))), true)), []), (AOper.mk (some (.i (.i (.i (.i (.o .h)))))) (.pick (.t (.i (.i (.i (.o (.o .h)))))) (.t (.o (.i (.i (.i (.o .h)))))) (.c (.bool false))) none, []), (AOper.mk (some (.o (.o (.o (.o (.i .h)))))) (.mv (.t (.i (.i (.i (.i (.o .h))))))) none, []), (AOper.mk (some (.i (.o (.o (.o (.i .h)))))) (.load true 2 (.t (.i (.i (.o .h))))) (some (.o (.o (.o (.o (.i .h)))), true)), [12, 13, 15, 16, 17]), (AOper.mk (some (.o (.i (.o (.o (.i .h)))))) (.load true 2 (.t (.o (.o (.i .h))))) (some (.o (.o (.o (.o (.i .h)))), true)), [11, 13, 15, 16, 17]), (AOper.mk (some (.i (.i (.o (.o (.i .h)))))) (.load true 2 (.t (.i (.o (.i .h))))) (some (.o (.o (.o (.o (.i .h)))), true)), [11, 12, 15, 16, 17]), (AOper.mk (some (.o (.o (.i (.o (.i .h)))))) (.call n_Curve [.t (.i (.o (.o (.o (.i .h))))), .t (.o (.i (.o (.o (.i .h))))), .t (.i (.i (.o (.o (.i .h)))))]) (some (.o (.o (.o (.o (.i .h)))), true)), [15, 16, 17]), (AOper.mk (some (.i (.o (.i (.o (.i .h)))))) (.load true 2 (.t (.i (.i (.o .h))))) (some (.o (.o (.o (.o (.i .h)))), true)), [11, 12, 13, 14, 16, 17]), (AOper.mk (some (.o (.i (.i (.o (.i .h)))))) (.load true 2 (.t (.o (.o (.i .h))))) (some (.o (.o (.o (.o (.i .h)))), true)), [11, 12, 13, 14, 15, 17]), (AOper.mk (some (.i (.i (.i (.o (.i .h)))))) (.load true 2 (.t (.i (.o (.i .h))))) (some (.o (.o (.o (.o (.i .h)))), true)), [11, 12, 13, 14, 15, 16]), (AOper.mk (some (.o (.o (.o (.i (.i .h)))))) (.call n_RCurve [.t (.i (.o (.i (.o (.i .h))))), .t (.o (.i (.i (.o (.i .h))))), .t (.i (.i (.i (.o (.i .h)))))]) (some (.o (.o (.o (.o (.i .h)))), true)), []), (AOper.mk (some (.i (.o (.o (.i (.i .h)))))) (.call n_SameSegs [.t (.o (.o (.i (.o (.i .h))))), .t (.o (.o (.o (.i (.i .h)))))]) (some (.o (.o (.o (.o (.i .h)))), true)), []), (AOper.mk (some (.o (.i (.o (.i (.i .h)))))) (.pick (.t (.o (.o (.o (.o (.i .h)))))) (.t (.i (.o (.o (.i (.i .h)))))) (.c (.bool false))) none, []), (AOper.mk (some (.i (.i (.i .h)))) (.mv (.t (.o (.i (.o (.i (.i .h))))))) none, [])]) .ret)))))) [.tmp (.i (.i (.i .h)))]
attribute [local simp] wp_skip wp_ret wp_exit wp_reg wp_seq wp_cond wp_block thenQ_normal thenQ_ret thenQ_exit blockQ_normal blockQ_ret blockQ_exit wpCond_true wpCond_false wpOps_nil wpVal_some wpGuard_true wpGuard_false wpOps_guard wpOps_cons
  put_at put_no ev_c ev_slot posEq_h posEq_o posEq_i posEq_ho posEq_hi posEq_oh posEq_ih posEq_oi posEq_io sel_true sel_false
  okv_some step_mv step_call step_pick pickV_bool step_bin bin_add bin_sub bin_mul bin_eql bin_neq bin_lss bin_leq bin_gtr bin_geq bin_eqb bin_neb bin_eqs bin_nes step_un un_not un_neg step_len len_slice len_str len_const step_extract extractV nth step_convInt conv_int step_convStr step_slice step_idxAddr natOf_nat step_load step_index step_field step_fieldAddr step_build step_minmax
  step_alloc step_bslice bsliceV_some newV_some step_store step_append boolIs_b boolIs_t finQ_ret finQ_normal ressE_nil ressE_cons resE_tmp consO_some initE_nil initE_cons pos_0 pos_1 pos_2 pos_3 pos_4 pos_5 pos_6 pos_7 pos_8 plain_bool plain_int plain_str plain_ptr plain_slice plain_map plain_agg plain_func plain_nilFunc V.undef oneOf_one oneOf_two ble_self
open Go.Vabs.Ph Go.Vabs.Fl Go.Vabs.Ka Go.Vabs.Kb Go.Vabs.Kc Go.Vabs.Ke Go.Vabs.Kf Go.Vabs.Kg Go.Vabs.Kh Go.Vabs.Kj Go.Vabs.Kk
attribute [local simp] step_nilchk nilchk_ptr step_box cells_int cells_bool cells_str cells_slice cells_ptr cells_agg fieldAddrV natOf_zero fill repN splice over newV
  wp_dreg wpDs_nil wpDs_cons wantedE_none wantedE_some wpDGuard_true wpDGuard_lim wpDGuard_false wpDLim_true wpDVal_free wpDVal_lim back_limited next_limited limF_dir limF_false foot_load foot_convStr okAll_nil okAll_cons pastsOf nthP ahead few_next load_limited okPair_dd okPair_dc okPair_cd okPair_cc anyIn_nil anyIn_same anyIn_cons meets_nil meets_nil' blt_dec
/- THE PLAIN LAW: THE DOCUMENT'S CONTOUR IS THE PROGRAM's -/
def reals (l : List Pl) : List Rp := l.map fun p => ⟨p, true⟩
theorem refL_eq {m : Aff} {c : List Pl} : refL m c = reals (turnP m c) := by simp [refL, reals, turnP]
theorem reals_app (l l' : List Pl) : reals (l ++ l') = reals l ++ reals l' := by simp [reals]
theorem go_expand : ∀ (l : List Pl) (last : Pl) (over : Option Pl) (out : List Sg), EndOn l over → (∀ o, over = some o → o.on = false) → (over = none → last.on = true) →
    linesGo l last over out = out ++ match over with
      | none => goE last (expandR ⟨last, true⟩ (reals l))
      | some o => goE last (⟨o, true⟩ :: expandR ⟨o, true⟩ (reals l))
  | [], last, none, out, _, _, _ => by simp [linesGo, reals, expandR, goE]
  | [], last, some o, out, he, _, _ => by cases he
  | p :: l, last, none, out, he, h1, h2 => by
    have hl := h2 rfl
    cases hon : p.on with
    | true =>
      have e : linesGo (p :: l) last none out = linesGo l p none (out ++ [segP last p]) := by simp [linesGo, hon]
      have he : EndOn l none := by have := he; simp only [EndOn, hon, if_true] at this; exact this
      rw [e, go_expand l p none (out ++ [segP last p]) he (fun o h => by cases h) (fun _ => hon)]
      have e2 : expandR ⟨last, true⟩ (reals (p :: l)) = ⟨p, true⟩ :: expandR ⟨p, true⟩ (reals l) := by simp [reals, expandR, hl]
      dsimp only
      rw [e2, goE_on hon]
      simp
    | false =>
      have e : linesGo (p :: l) last none out = linesGo l last (some p) out := by simp [linesGo, hon]
      have he : EndOn l (some p) := by have := he; simp only [EndOn, hon] at this; exact this
      rw [e, go_expand l last (some p) out he (fun o h => by cases h; exact hon) (fun h => by cases h)]
      have e2 : expandR ⟨last, true⟩ (reals (p :: l)) = ⟨p, true⟩ :: expandR ⟨p, true⟩ (reals l) := by simp [reals, expandR, hl]
      dsimp only
      rw [e2]
  | p :: l, last, some o, out, he, h1, h2 => by
    have ho := h1 o rfl
    cases hon : p.on with
    | true =>
      have e : linesGo (p :: l) last (some o) out = linesGo l p none (out ++ curveP last o p) := by simp [linesGo, hon]
      have he : EndOn l none := by have := he; simp only [EndOn, hon, if_true] at this; exact this
      rw [e, go_expand l p none _ he (fun o h => by cases h) (fun _ => hon)]
      have e2 : expandR ⟨o, true⟩ (reals (p :: l)) = ⟨p, true⟩ :: expandR ⟨p, true⟩ (reals l) := by simp [reals, expandR, hon]
      dsimp only
      rw [e2, goE_off ho]
      simp
    | false =>
      have e : linesGo (p :: l) last (some o) out = linesGo l (midP o p) (some p) (out ++ curveP last o (midP o p)) := by simp [linesGo, hon]
      have he : EndOn l (some p) := by have := he; simp only [EndOn, hon] at this; exact this
      rw [e, go_expand l (midP o p) (some p) _ he (fun o h => by cases h; exact hon) (fun h => by cases h)]
      have e2 : expandR ⟨o, true⟩ (reals (p :: l)) = ⟨midP o p, false⟩ :: ⟨p, true⟩ :: expandR ⟨p, true⟩ (reals l) := by simp [reals, expandR, ho, hon]
      dsimp only
      rw [e2, goE_off ho]
      simp
theorem expand_on {o r : Rp} {l : List Rp} (h : r.p.on = true) : expandR o (r :: l) = r :: expandR r l := by simp [expandR, h]
/-- Whether the one ahead is a point or one between does not matter. -/
theorem expand_real : ∀ (l : List Rp) (p : Pl) (b b' : Bool), expandR ⟨p, b⟩ l = expandR ⟨p, b'⟩ l
  | [], _, _, _ => rfl
  | r :: l, p, b, b' => rfl
theorem firstR_skip : ∀ {X : List Rp} {a : Rp} {Y : List Rp}, (∀ r ∈ X, (r.p.on && r.real) = false) → (a.p.on && a.real) = true → firstR (X ++ a :: Y) = some X.length
  | [], a, Y, _, ha => by simp only [List.nil_append, List.length_nil]; unfold firstR; rw [if_pos ha]
  | x :: X, a, Y, h, ha => by
    have hx := h x (List.mem_cons_self ..)
    have ih := firstR_skip (X := X) (a := a) (Y := Y) (fun r hr => h r (List.mem_cons_of_mem _ hr)) ha
    show firstR (x :: (X ++ a :: Y)) = _
    unfold firstR
    rw [hx, if_neg (by simp), ih]
    simp
theorem expand_off : ∀ {l : List Pl} {o : Rp}, (∀ p ∈ l, p.on = false) → ∀ r ∈ expandR o (reals l), (r.p.on && r.real) = false
  | [], o, _, r, h => by cases h
  | p :: l, o, hl, r, h => by
    have hp := hl p (List.mem_cons_self ..)
    have h : r ∈ (if o.p.on = false ∧ p.on = false then [(⟨midP o.p p, false⟩ : Rp)] else []) ++ ⟨p, true⟩ :: expandR ⟨p, true⟩ (reals l) := h
    rcases List.mem_append.1 h with h | h
    · split at h
      · rw [List.mem_singleton] at h
        subst h
        simp
      · cases h
    · rcases List.mem_cons.1 h with rfl | h
      · simp [hp]
      · exact expand_off (fun q hq => hl q (List.mem_cons_of_mem _ hq)) r h
theorem firstOn_before : ∀ {c : List Pl} {i : Nat}, firstOn c = some i → ∀ p ∈ c.take i, p.on = false
  | a :: c, i, h, p, hp => by
    unfold firstOn at h
    split at h
    · cases h; cases hp
    · rename_i ha
      cases hc : firstOn c with
      | none => rw [hc] at h; cases h
      | some k =>
        rw [hc] at h
        cases h
        have hp : p ∈ a :: c.take k := hp
        rcases List.mem_cons.1 hp with rfl | hp
        · simpa using ha
        · exact firstOn_before hc p hp
theorem last_reals {l : List Pl} (h : l ≠ []) : (reals l).getLast? = some ⟨l.getLast h, true⟩ := by
  unfold reals
  rw [List.getLast?_map, List.getLast?_eq_some_getLast h]
  rfl
theorem goE_p : ∀ (l l' : List Rp) (a : Pl), l.map Rp.p = l'.map Rp.p → goE a l = goE a l'
  | [], [], a, _ => rfl
  | [], _ :: _, a, h => by simp at h
  | _ :: _, [], a, h => by simp at h
  | [b], [b'], a, h => by
    simp at h
    simp only [goE, h]
  | [b], b' :: c' :: l', a, h => by simp at h
  | b :: c :: l, [b'], a, h => by simp at h
  | b :: c :: l, b' :: c' :: l', a, h => by
    simp at h
    obtain ⟨h1, h2, h3⟩ := h
    have i1 := goE_p (c :: l) (c' :: l') b'.p (by simp [h2, h3])
    have i2 := goE_p l l' c'.p h3
    unfold goE
    rw [h1, h2, i1, i2]
theorem ref_segs (m : Aff) (c : List Pl) : refP m c = segs1 m c := by
  by_cases h2 : 2 ≤ c.length
  · obtain ⟨T, hT⟩ : ∃ T, T = turnP m c := ⟨_, rfl⟩
    have hTl : T.length = c.length := by rw [hT]; simp [turnP]
    have hTne : T ≠ [] := fun e => by rw [e] at hTl; simp at hTl; omega
    unfold refP segs1
    rw [if_neg (by omega), if_pos h2, refL_eq, ← hT, last_reals hTne]
    dsimp only
    cases hf : firstOn T with
    | some i =>
      obtain ⟨a, ha, hon⟩ := firstOn_on hf
      have hi := firstOn_lt hf
      have hbef := firstOn_before hf
      have e1 : T.drop i = a :: T.drop (i + 1) := by
        rw [List.drop_eq_getElem_cons hi]
        congr 1
        exact (List.getElem?_eq_some_iff.1 ha).2
      have eT : T = T.take i ++ a :: T.drop (i + 1) := by rw [← e1, List.take_append_drop]
      obtain ⟨P, hP⟩ : ∃ P, P = T.take i := ⟨_, rfl⟩
      obtain ⟨D, hD⟩ : ∃ D, D = T.drop (i + 1) := ⟨_, rfl⟩
      rw [← hP, ← hD] at eT
      rw [← hP] at hbef
      have hb : begunP T = a :: (D ++ P ++ [a]) := by
        unfold begunP
        rw [hf]
        dsimp only
        rw [e1, ← hD, List.take_add_one, ha, ← hP]
        simp
      rw [hb]
      show _ = linesGo (D ++ P ++ [a]) a none []
      rw [go_expand _ a none [] (endOn_snoc (D ++ P) none a hon) (fun o h => by cases h) (fun _ => hon), List.nil_append]
      dsimp only
      -- the last one
      have hzl : T.getLast hTne = (a :: D).getLast (by simp) := by
        simp only [eT]
        rw [List.getLast_append_of_ne_nil (by simp)]
      rw [hzl]
      obtain ⟨z, hz⟩ : ∃ z, z = (a :: D).getLast (by simp) := ⟨_, rfl⟩
      rw [← hz]
      obtain ⟨X, hX⟩ : ∃ X, X = expandR ⟨z, true⟩ (reals P) := ⟨_, rfl⟩
      obtain ⟨Y, hY⟩ : ∃ Y, Y = expandR ⟨a, true⟩ (reals D) := ⟨_, rfl⟩
      have hE : expandR ⟨z, true⟩ (reals T) = X ++ ⟨a, true⟩ :: Y := by
        rw [eT, reals_app, expand_app, ← hX]
        show X ++ expandR _ (⟨a, true⟩ :: reals D) = _
        rw [expand_on hon, ← hY]
      have hfr : firstR (X ++ ⟨a, true⟩ :: Y) = some X.length := firstR_skip (by rw [hX]; exact expand_off hbef) (by simp [hon])
      have hrot : rotR (X ++ ⟨a, true⟩ :: Y) = ⟨a, true⟩ :: (Y ++ X) := by
        unfold rotR startR
        rw [hfr]
        dsimp only
        rw [List.drop_left, List.take_left]
        rfl
      rw [hE, hrot]
      dsimp only
      congr 1
      simp only [reals_app, List.append_assoc]
      rw [expand_app, ← hY]
      congr 1
      have hlast : ((⟨a, true⟩ : Rp) :: reals D).getLast (by simp) = ⟨z, true⟩ := by
        have : (reals (a :: D)).getLast? = some ⟨(a :: D).getLast (by simp), true⟩ := last_reals (by simp)
        rw [← hz] at this
        have e : reals (a :: D) = ⟨a, true⟩ :: reals D := rfl
        rw [e, List.getLast?_eq_some_getLast (by simp)] at this
        exact Option.some.inj this
      rw [hlast, expand_app, ← hX]
      congr 1
      show _ = expandR _ [(⟨a, true⟩ : Rp)]
      rw [expand_on hon]
      rfl
    | none =>
      have hoff := firstOn_off hf
      obtain ⟨a, T', e⟩ : ∃ a T', T = a :: T' := by
        cases hTT : T with
        | nil => exact absurd hTT hTne
        | cons a T' => exact ⟨a, T', rfl⟩
      obtain ⟨z, hz⟩ : ∃ z, z = T.getLast hTne := ⟨_, rfl⟩
      have hzo : z.on = false := hoff z (by rw [hz]; exact List.getLast_mem hTne)
      have hao : a.on = false := hoff a (by rw [e]; exact List.mem_cons_self ..)
      have hb : begunP T = midP z a :: (T ++ [midP z a]) := by
        unfold begunP
        rw [hf]
        dsimp only
        rw [List.getLast?_eq_some_getLast hTne, ← hz]
        have hh : T.head? = some a := by rw [e]; rfl
        rw [hh]
        rfl
      rw [hb]
      show _ = linesGo (T ++ [midP z a]) (midP z a) none []
      rw [go_expand _ (midP z a) none [] (endOn_snoc T none (midP z a) rfl) (fun o h => by cases h) (fun _ => rfl), List.nil_append]
      dsimp only
      rw [← hz]
      obtain ⟨Y, hY⟩ : ∃ Y, Y = expandR ⟨a, true⟩ (reals T') := ⟨_, rfl⟩
      have hE : expandR ⟨z, true⟩ (reals T) = ⟨midP z a, false⟩ :: ⟨a, true⟩ :: Y := by
        rw [e, hY]
        simp [reals, expandR, hzo, hao]
      have hfr : firstR (expandR ⟨z, true⟩ (reals T)) = none := by
        have hall := expand_off (o := ⟨z, true⟩) hoff
        cases hh : firstR (expandR ⟨z, true⟩ (reals T)) with
        | none => rfl
        | some i =>
          obtain ⟨r, h1, h3⟩ := firstR_at hh
          rw [hall r (List.mem_of_getElem? h1)] at h3
          cases h3
      have hrot : rotR (expandR ⟨z, true⟩ (reals T)) = ⟨midP z a, false⟩ :: ⟨a, true⟩ :: Y := by
        unfold rotR startR
        rw [hfr]
        dsimp only
        rw [List.drop_zero, List.take_zero, List.append_nil, hE]
      rw [hrot]
      dsimp only
      have hE2 : expandR ⟨midP z a, true⟩ (reals (T ++ [midP z a])) = ⟨a, true⟩ :: (Y ++ [⟨midP z a, true⟩]) := by
        rw [e]
        show expandR ⟨midP z a, true⟩ (⟨a, true⟩ :: reals (T' ++ [midP z a])) = _
        have e3 : expandR ⟨midP z a, true⟩ (⟨a, true⟩ :: reals (T' ++ [midP z a])) = ⟨a, true⟩ :: expandR ⟨a, true⟩ (reals (T' ++ [midP z a])) := by simp [expandR, midP]
        rw [e3, reals_app, expand_app, ← hY]
        congr 2
        exact expand_on rfl
      rw [hE2]
      exact goE_p _ _ _ (by simp)
  · unfold refP segs1
    rw [if_pos (by omega), if_neg h2]

/- THE DOCUMENT'S SEGMENTS -/
def RSegsF (call : CallT) (g : Nat) : Prop := ∀ os w (m : Aff) (cs : List (List Pl)), CIn os w cs → cs.length ≤ 31 → (∀ c ∈ cs, c.length ≤ 31) → ∃ u os', call g [w, m.V] (few os) = some (u, few os') ∧ OutG Sg.cells 4 os' os.length u (segsP m cs) ∧ (∀ i, i < os.length → (os'[i]?).join = (os[i]?).join) ∧ os.length ≤ os'.length
set_option maxHeartbeats 2000000 in
theorem RSegs_run {call : CallT} {lf nC : Nat} (hlf : 31 < lf) (hC : ContourF call nC) {os : List (Option AObj)} {w : V} {m : Aff} {cs : List (List Pl)} (h : CIn os w cs) (hl : cs.length ≤ 31) (hc : ∀ c ∈ cs, c.length ≤ 31) :
    ∃ u os', enterF call lf [w, m.V] (few os) (RSegs_c nC) = some (u, few os') ∧ OutG Sg.cells 4 os' os.length u (segsP m cs) ∧ (∀ i, i < os.length → (os'[i]?).join = (os[i]?).join) ∧ os.length ≤ os'.length := by
  obtain ⟨L, hLe⟩ : ∃ L, L = os.length := ⟨_, rfl⟩
  rw [← hLe]
  have main := enter_wp (call := call) (lf := lf) (n := 22) (args := [w, m.V]) (st := few os) (K := fun u st => ∃ os', st = few os' ∧ OutG Sg.cells 4 os' L u (segsP m cs) ∧ (∀ i, i < L → (os'[i]?).join = (os[i]?).join) ∧ L ≤ os'.length) (c := (RSegs_c nC).code) (rs := (RSegs_c nC).results) ?_
  · obtain ⟨u, st', h1, os', rfl, h2⟩ := main
    exact ⟨u, os', h1, h2⟩
  · obtain ⟨O, hO⟩ : ∃ O, O = os ++ [some (.cells true m.cells)] := ⟨_, rfl⟩
    have alO : (few os).alloc (.cells true m.cells) = some (L, few O) := by rw [few_alloc, hO, hLe]
    have hOl : O.length = L + 1 := by rw [hO, hLe]; simp
    have hOo : ∀ i, i < L → (O[i]?).join = (os[i]?).join := fun i hi => by rw [hO, joinApp (by omega)]
    have hOe : (O[L]?).join = some (.cells true m.cells) := by rw [hO, hLe, joinEnd]
    have cM := cellsM m
    have hlen := h.lenV
    obtain ⟨n, hn⟩ : ∃ n, n = cs.length := ⟨_, rfl⟩
    rw [← hn] at hlen hl
    unfold RSegs_c
    dsimp only
    simp [cM, alO]
    refine wp_loop (fun k s st => ∃ (os' : List (Option AObj)) (j : Nat), st = few os' ∧ j + k = n ∧ s (.o (.o .h)) = .ptr (some (L, 0)) ∧ s .h = w ∧ s (.i (.i .h)) = .int .i64 (j : Int) ∧ OutG Sg.cells 4 os' (L + 1) (s (.o (.i .h))) (segsP m (cs.take j)) ∧ (∀ i, i < L + 1 → (os'[i]?).join = (O[i]?).join) ∧ L + 1 ≤ os'.length) n ?_ (by omega) ?_
    · refine ⟨O, 0, rfl, by omega, ?_, ?_, ?_, .inl ⟨rfl, ?_⟩, fun _ _ => rfl, by omega⟩ <;> simp
    · rintro k s st ⟨os', j, rfl, hk, s1, s2, s3, ho, hold, hle⟩
      obtain ⟨ov, hov⟩ : ∃ ov, s (.o (.i .h)) = ov := ⟨_, rfl⟩
      rw [hov] at ho
      cases k with
      | zero =>
        have hj : j = n := by omega
        rw [hj] at s3
        rw [hj, hn, List.take_length] at ho
        have hp := ho.plain
        simp (disch := omega) [s1, s2, s3, hov, hlen, dltn_f, hp]
        exact ⟨os', rfl, ho.lower (by omega), fun i hi => by rw [hold i (by omega), hOo i hi], by omega⟩
      | succ k =>
        obtain ⟨c, hcj⟩ : ∃ c, cs[j]? = some c := ⟨_, List.getElem?_eq_getElem (by omega)⟩
        have hcl := hc c (List.mem_of_getElem? hcj)
        obtain ⟨⟨q, qo⟩, u, h1, h2, h3, h4⟩ := (h.grow (os' := os') (fun i hi => by rw [hold i (by omega), hOo i (by omega)]) (by omega)).at_ j c hcj
        have hM : loadV (few os') true 6 (.ptr (some (L, 0))) = some m.V := loadAll (by rw [hold _ (by omega), hOe]) (Aff.len m)
        obtain ⟨t, D, d1, d2, d3, d4⟩ := hC os' u m c h4 hcl
        rw [ref_segs] at d2
        have hoD : OutG Sg.cells 4 D (L + 1) ov (segsP m (cs.take j)) := ho.keepAll d3
        have hsl := segs1_len (m := m) (c := c) hcl
        have hsn := segsP_len (m := m) (cs.take j) (fun c hc' => hc c (List.mem_of_mem_take hc'))
        rw [List.length_take] at hsn
        obtain ⟨ov', E, g1, g2, g3, g4⟩ := hoD.grow (fun a => Sg.len a) (nb := segs1 m c) (bytes := 32) (by omega) (by omega)
        have w1 := d2.lenO
        have w2 := d2.first (fun a => Sg.len a)
        have hjn : j < n := by omega
        simp (disch := omega) [s1, s2, s3, hov, hlen, dltn_t, hjn, natOf_j, h1, h3, hM, d1, w1, firstNo_some, w2, g1, wrap_i, load_d, idOf]
        refine ⟨k, by omega, E, rfl, j + 1, by omega, by omega, ?_, fun i hi => ?_, by omega⟩
        · rw [segsP_snoc hcj]
          exact g2
        · rw [g3 i (by omega) (fun q o e n c f hq => by have := ho.above hq; omega), d3 i (by omega), hold i hi]
theorem RSegsF.code {base : CallT} {g lf nC : Nat} (hlf : 31 < lf) (hC : ContourF base nC) : RSegsF (Vabs.withF base g lf (RSegs_c nC)) g := fun os w m cs h h1 h2 => by
  rw [withF_same]; exact RSegs_run hlf hC h h1 h2
theorem RSegsF.withF {call : CallT} {n g lf : Nat} {fn : AFunc} (h : RSegsF call n) (hne : n ≠ g) : RSegsF (Vabs.withF call g lf fn) n := fun os w m cs a b d => by rw [withF_other hne]; exact h os w m cs a b d
theorem RSegsF.other {call : CallT} {n g : Nat} {l : List V → St → Option (V × St)} (h : RSegsF call n) (hne : n ≠ g) : RSegsF (withL call g l) n := fun os w m cs a b d => by rw [withL_other hne]; exact h os w m cs a b d

/- THE SEGMENTS AS A LAW -/
def decPl : List V → Option Pl
  | [.int .i64 x, .int .i64 y, .bool b] => some ⟨x, y, b⟩
  | _ => none
theorem decPl_cells (p : Pl) : decPl p.cells = some p := rfl
theorem decPl_some {cs : List V} {p : Pl} (h : decPl cs = some p) : cs = p.cells := by
  unfold decPl at h
  split at h
  · cases h; rfl
  · cases h
noncomputable def lookP (l : Sight) : V → Option (List Pl)
  | .slice (some (i, o)) 3 n c _ => if n ≤ c then match l i with | some (.cells _ cs) => if o + n * 3 ≤ cs.length then decG 3 decPl n ((cs.drop o).take (n * 3)) else none | _ => none else none
  | .slice none 0 0 0 true => some []
  | _ => none
noncomputable def lookPs (l : Sight) : List V → Option (List (List Pl))
  | [] => some []
  | v :: vs => match lookP l v, lookPs l vs with | some b, some bs => some (b :: bs) | _, _ => none
noncomputable def lookC (l : Sight) : V → Option (List (List Pl))
  | .slice (some (i, o)) 1 n c _ => if n ≤ c then match l i with | some (.cells _ cs) => if o + n ≤ cs.length then lookPs l ((cs.drop o).take n) else none | _ => none else none
  | .slice none 0 0 0 true => some []
  | _ => none
theorem lookP_mono {l l' : Sight} (h : ∀ i o, l i = some o → l' i = some o) {v : V} {c : List Pl} (hb : lookP l v = some c) : lookP l' v = some c := by
  unfold lookP at hb ⊢
  split at hb
  · split at hb
    · rename_i hnc
      rw [if_pos hnc]
      split at hb
      · rename_i own cs hl
        rw [h _ _ hl]
        exact hb
      · cases hb
    · cases hb
  · exact hb
  · cases hb
theorem lookPs_mono {l l' : Sight} (h : ∀ i o, l i = some o → l' i = some o) : ∀ {vs : List V} {cs : List (List Pl)}, lookPs l vs = some cs → lookPs l' vs = some cs
  | [], cs, hb => hb
  | v :: vs, cs, hb => by
    unfold lookPs at hb ⊢
    split at hb
    · rename_i b bs h1 h2
      rw [lookP_mono h h1, lookPs_mono h h2]
      exact hb
    · cases hb
theorem lookC_mono {l l' : Sight} (h : ∀ i o, l i = some o → l' i = some o) {v : V} {cs : List (List Pl)} (hb : lookC l v = some cs) : lookC l' v = some cs := by
  unfold lookC at hb ⊢
  split at hb
  · split at hb
    · rename_i hnc
      rw [if_pos hnc]
      split at hb
      · rename_i own cs hl
        rw [h _ _ hl]
        dsimp only
        split at hb
        · rename_i hle
          rw [if_pos hle]
          exact lookPs_mono h hb
        · cases hb
      · cases hb
    · cases hb
  · exact hb
  · cases hb
theorem freeze_cells {o : AObj} {own : Bool} {cs : List V} (h : AObj.cells own cs = o.freeze) : ∃ own', o = .cells own' cs := by
  cases o with
  | cells own' cs' => cases h; exact ⟨own', rfl⟩
  | map _ _ _ => cases h
theorem lookP_in {os : List (Option AObj)} {v : V} {c : List Pl} (h : lookP (few os).look v = some c) : RowIn Pl.cells 3 os v c := by
  unfold lookP at h
  split at h
  · rename_i i o n c' f
    split at h
    · rename_i hnc
      split at h
      · rename_i own cs hl
        split at h
        · rename_i hle
          obtain ⟨_, o', h2, _, h4⟩ := look_some hl
          obtain ⟨own', rfl⟩ := freeze_cells h4
          rw [few_get] at h2
          obtain ⟨e1, e2⟩ := decG_some (w := Pl.cells) (fun cs a h => decPl_some h) n _ c h (by rw [List.length_take, List.length_drop]; omega)
          subst e2
          refine ⟨fun st => rfl, rfl, fun j p hj => ?_⟩
          have hlt := (List.getElem?_eq_some_iff.1 hj).1
          refine ⟨i, o + j * 3, idxAddr_slice hlt, joinLt h2, fun os' h5 => ?_⟩
          rw [h2] at h5
          have hle3 : j * 3 + 3 ≤ c.length * 3 := by omega
          have hcut : (cs.drop (o + j * 3)).take 3 = p.cells := by
            have h6 := encG_cut (w := Pl.cells) (k := 3) (fun a => Pl.len a) hj
            rw [cut_of (by rw [encG_len (fun a => Pl.len a)]; omega), ← e1, List.drop_take, List.take_take, Nat.min_eq_left (by omega), List.drop_drop] at h6
            exact Option.some.inj h6
          refine ⟨?_, fun t ht => ?_⟩
          · rw [load_fewC, cellsAt_eq, h5]
            show (cut (o + j * 3) 3 cs).map V.agg = _
            rw [cut_of (by omega), hcut]
            rfl
          · rw [load_few h5, ← hcut, List.getElem?_take_of_lt ht, List.getElem?_drop]
        · cases h
      · cases h
    · cases h
  · cases h
    exact ⟨fun st => rfl, rfl, fun j p hj => by simp at hj⟩
  · cases h
theorem lookPs_at {l : Sight} : ∀ {vs : List V} {cs : List (List Pl)}, lookPs l vs = some cs → vs.length = cs.length ∧ ∀ (j : Nat) (c : List Pl), cs[j]? = some c → ∃ u, vs[j]? = some u ∧ lookP l u = some c
  | [], cs, h => by cases h; exact ⟨rfl, fun j c hj => by simp at hj⟩
  | v :: vs, cs, h => by
    unfold lookPs at h
    split at h
    · rename_i b bs h1 h2
      cases h
      obtain ⟨e1, e2⟩ := lookPs_at h2
      refine ⟨by simp [e1], fun j c hj => ?_⟩
      cases j with
      | zero => simp at hj; subst hj; exact ⟨v, rfl, h1⟩
      | succ j =>
        obtain ⟨u, hu, hc⟩ := e2 j c (by simpa using hj)
        exact ⟨u, by simpa using hu, hc⟩
    · cases h
theorem lookC_in {os : List (Option AObj)} {w : V} {cs : List (List Pl)} (h : lookC (few os).look w = some cs) : CIn os w cs := by
  unfold lookC at h
  split at h
  · rename_i i o n c' f
    split at h
    · rename_i hnc
      split at h
      · rename_i own ws hl
        split at h
        · rename_i hle
          obtain ⟨_, o', h2, _, h4⟩ := look_some hl
          obtain ⟨own', rfl⟩ := freeze_cells h4
          rw [few_get] at h2
          obtain ⟨e1, e2⟩ := lookPs_at h
          have hn : n = cs.length := by rw [← e1, List.length_take, List.length_drop]; omega
          subst hn
          refine ⟨fun st => rfl, fun j c hj => ?_⟩
          have hlt := (List.getElem?_eq_some_iff.1 hj).1
          obtain ⟨u, hu, hc⟩ := e2 j c hj
          refine ⟨(i, o + j * 1), u, idxAddr_slice hlt, joinLt h2, ?_, lookP_in hc⟩
          rw [load_few h2, Nat.mul_one]
          rw [List.getElem?_take_of_lt hlt, List.getElem?_drop] at hu
          exact hu
        · cases h
      · cases h
    · cases h
  · cases h
    exact ⟨fun st => rfl, fun j c hj => by simp at hj⟩
  · cases h
noncomputable def segsA (S : List Sg) : Ans := if S.length = 0 then ([], fun _ => .slice none 0 0 0 true) else ([.cells true (encG Sg.cells S)], fun k => .slice (some (k, 0)) 4 S.length S.length false)
noncomputable def segsS : Nat → Sight → List V → Option Ans := fun _ l args =>
  match args with
  | [w, .agg [.int .i64 a, .int .i64 b, .int .i64 c, .int .i64 d, .int .i64 e, .int .i64 f]] => match lookC l w with | some cs => if cs.length ≤ 31 ∧ cs.all (fun c => decide (c.length ≤ 31)) = true then some (segsA (segsP ⟨a, b, c, d, e, f⟩ cs)) else none | none => none
  | _ => none
theorem segsS_mono : MonoN segsS := by
  intro n l l' args a h ha
  unfold segsS at ha ⊢
  split at ha
  · split at ha
    · rename_i cs hcs
      rw [lookC_mono h hcs]
      exact ha
    · cases ha
  · cases ha
theorem sg_flat : ∀ (S : List Sg), ∀ v ∈ encG Sg.cells S, v.flat = true := fun S => List.all_eq_true.1 (encG_all (fun s => rfl) S)
theorem segs_sound {P : Program} {call : CallT} (hmix : P.follows .mixedOrders = true) (hs : Sound P call) {g nT nB nL : Nat} (hT : TurnedF call nT) (hB : BegunF call nB) (hL : LinesF call nL) (hc : compF P g = some (Segs_c nT nB nL)) : Sound P (withL call g (lawOf (sightRdN segsS))) := by
  refine hs.sightN hmix 40 hc segsS_mono fun os args new f hg hx => ?_
  unfold segsS at hx
  split at hx
  · rename_i w a b c d e f'
    split at hx
    · rename_i cs hcs
      split at hx
      · rename_i hl
        have hx : segsA (segsP ⟨a, b, c, d, e, f'⟩ cs) = (new, f) := Option.some.inj hx
        have hnew : new = (segsA (segsP ⟨a, b, c, d, e, f'⟩ cs)).1 := by rw [hx]
        have hff : f = (segsA (segsP ⟨a, b, c, d, e, f'⟩ cs)).2 := by rw [hx]
        subst hnew hff
        obtain ⟨u, os', h1, h2, h3, h4⟩ := Segs_run (lf := 40) (m := ⟨a, b, c, d, e, f'⟩) (by omega) hT hB hL (lookC_in hcs) hl.1 (fun c hc => of_decide_eq_true (List.all_eq_true.1 hl.2 c hc))
        unfold segsA
        rcases h2 with ⟨h5, rfl⟩ | ⟨q, h5, rfl, h6⟩
        · rw [h5, if_pos (show ([] : List Sg).length = 0 from rfl)]
          exact ⟨_, _, [], h1, Left.flat rfl⟩
        · rw [if_neg (fun e => h5.2 (List.length_eq_zero_iff.1 e))]
          exact ⟨_, _, [q], h1, Left.cells (sg_flat _) (Nat.le_refl _) (by rw [few_next]; exact h5.1) (by rw [few_heap]; exact h6)⟩
      · cases hx
    · cases hx
  · cases hx

/-- The law's answer in a memory whose old objects may not be written. -/
theorem look_call {os : List (Option AObj)} : (limited .call [] (few os)).look = (few os).look := by
  funext i
  unfold St.look
  rfl
theorem lawOut_segs {S : List Sg} {os : List (Option AObj)} : ∃ u t E, lawOut (some (segsA S)) (limited .call [] (few os)) = some (u, t) ∧ back (few os) t = few E ∧ t.next = E.length ∧ OutG Sg.cells 4 E os.length u S ∧ (∀ i, i < os.length → (E[i]?).join = (os[i]?).join) ∧ os.length ≤ E.length := by
  unfold segsA
  by_cases h : S.length = 0
  · rw [if_pos h]
    exact ⟨_, _, os, rfl, back_limited, next_limited, .inl ⟨List.length_eq_zero_iff.1 h, rfl⟩, fun _ _ => rfl, Nat.le_refl _⟩
  · rw [if_neg h, lawOut_call]
    refine ⟨_, _, os ++ [some (.cells true (encG Sg.cells S))], rfl, ?_, ?_, .inr ⟨os.length, ⟨Nat.le_refl _, fun e => h (by rw [e]; rfl)⟩, rfl, joinEnd⟩, fun i hi => joinApp hi, by simp⟩
    · rw [back_back, back_few]
    · rw [next_back, few_next]
def SegsLF (call : CallT) (g : Nat) : Prop := ∀ os w (m : Aff) (cs : List (List Pl)), w.good os.length = true → lookC (few os).look w = some cs → cs.length ≤ 31 → (∀ c ∈ cs, c.length ≤ 31) → ∃ u t E, call g [w, m.V] (limited .call [] (few os)) = some (u, t) ∧ back (few os) t = few E ∧ t.next = E.length ∧ OutG Sg.cells 4 E os.length u (segsP m cs) ∧ (∀ i, i < os.length → (E[i]?).join = (os[i]?).join) ∧ os.length ≤ E.length
theorem segsL_fact {call : CallT} {g : Nat} : SegsLF (withL call g (lawOf (sightRdN segsS))) g := by
  intro os w m cs hg hw h1 h2
  obtain ⟨u, t, E, e1, e2⟩ := lawOut_segs (S := segsP m cs) (os := os)
  refine ⟨u, t, E, ?_, e2⟩
  rw [sightN_call (by rw [next_limited, few_next]; simp [goods, hg, Aff.V, Aff.cells, V.good]), look_call]
  unfold segsS Aff.V Aff.cells
  dsimp only
  rw [hw]
  dsimp only
  rw [if_pos ⟨h1, List.all_eq_true.2 fun c hc => decide_eq_true (h2 c hc)⟩]
  exact e1
theorem SegsLF.other {call : CallT} {n g : Nat} {l : List V → St → Option (V × St)} (h : SegsLF call n) (hne : n ≠ g) : SegsLF (withL call g l) n := fun os w m cs a b c d => by rw [withL_other hne]; exact h os w m cs a b c d
theorem SegsLF.withF {call : CallT} {n g lf : Nat} {fn : AFunc} (h : SegsLF call n) (hne : n ≠ g) : SegsLF (Vabs.withF call g lf fn) n := fun os w m cs a b c d => by rw [withF_other hne]; exact h os w m cs a b c d
/- CONTOURS OF ONE'S OWN ARE SEEN -/
theorem pl_goods {n : Nat} : ∀ (c : List Pl), goods n (encG Pl.cells c) = true
  | [] => rfl
  | p :: c => by
    show goods n (p.cells ++ encG Pl.cells c) = true
    show goods n (.int .i64 p.x :: .int .i64 p.y :: .bool p.on :: encG Pl.cells c) = true
    simp only [goods, V.good, Bool.true_and]
    exact pl_goods c
theorem lookP_own {os : List (Option AObj)} {N : Nat} {v : V} {c : List Pl} (h : OutG Pl.cells 3 os N v c) : lookP (few os).look v = some c := by
  rcases h with ⟨rfl, rfl⟩ | ⟨q, h1, rfl, h3⟩
  · rfl
  · show (if c.length ≤ c.length then match (few os).look q with | some (.cells _ cs) => if 0 + c.length * 3 ≤ cs.length then decG 3 decPl c.length ((cs.drop 0).take (c.length * 3)) else none | _ => none else none) = _
    rw [if_pos (Nat.le_refl _), look_of (by rw [few_next]; exact joinLt h3) (by rw [few_get]; exact h3) (show AObj.good (few os).next (.cells true (encG Pl.cells c)) = true from pl_goods c)]
    show (if 0 + c.length * 3 ≤ (encG Pl.cells c).length then decG 3 decPl c.length (((encG Pl.cells c).drop 0).take (c.length * 3)) else none) = _
    rw [if_pos (by rw [encG_len (fun a => Pl.len a)]; omega), List.drop_zero, List.take_of_length_le (by rw [encG_len (fun a => Pl.len a)]; omega)]
    exact decG_enc (fun a => Pl.len a) decPl_cells c
theorem lookPs_own {l : Sight} : ∀ {vs : List V} {cs : List (List Pl)}, vs.length = cs.length → (∀ (j : Nat) (v : V) (c : List Pl), vs[j]? = some v → cs[j]? = some c → lookP l v = some c) → lookPs l vs = some cs
  | [], [], _, _ => rfl
  | [], _ :: _, h, _ => by simp at h
  | _ :: _, [], h, _ => by simp at h
  | v :: vs, c :: cs, hl, h => by
    unfold lookPs
    rw [h 0 v c rfl rfl, lookPs_own (vs := vs) (cs := cs) (by simpa using hl) (fun j u d hu hd => h (j + 1) u d (by simpa using hu) (by simpa using hd))]
theorem one1_enc : ∀ (vs : List V), encG one1 vs = vs
  | [] => rfl
  | v :: vs => by
    show [v] ++ encG one1 vs = v :: vs
    rw [one1_enc vs]
    rfl
theorem outg_good {α : Type} {w : α → List V} {k N : Nat} {os : List (Option AObj)} {v : V} {l : List α} (h : OutG w k os N v l) : v.good os.length = true := by
  rcases h with ⟨_, rfl⟩ | ⟨q, _, rfl, h3⟩
  · rfl
  · simp only [V.good, Nat.blt_eq]; exact joinLt h3
theorem lookC_own {os : List (Option AObj)} {N : Nat} {w : V} {vs : List V} {cs : List (List Pl)} (h : OutG one1 1 os N w vs) (hl : vs.length = cs.length) (hat : ∀ (j : Nat) (v : V) (c : List Pl), vs[j]? = some v → cs[j]? = some c → OutG Pl.cells 3 os N v c) : lookC (few os).look w = some cs := by
  have hps : lookPs (few os).look vs = some cs := lookPs_own hl fun j v c hv hc => lookP_own (hat j v c hv hc)
  have hgood : goods os.length vs = true := goods_mem.2 fun v hv => by
    obtain ⟨j, hj, rfl⟩ := List.mem_iff_getElem.1 hv
    exact outg_good (hat j _ (cs[j]'(by omega)) (List.getElem?_eq_getElem hj) (List.getElem?_eq_getElem (by omega)))
  rcases h with ⟨rfl, rfl⟩ | ⟨q, h1, rfl, h3⟩
  · cases cs with
    | nil => rfl
    | cons c cs => simp at hl
  · rw [one1_enc] at h3
    show (if vs.length ≤ vs.length then match (few os).look q with | some (.cells _ ws) => if 0 + vs.length ≤ ws.length then lookPs (few os).look ((ws.drop 0).take vs.length) else none | _ => none else none) = _
    rw [if_pos (Nat.le_refl _), look_of (by rw [few_next]; exact joinLt h3) (by rw [few_get]; exact h3) (show AObj.good (few os).next (.cells true vs) = true from by rw [few_next]; exact hgood)]
    show (if 0 + vs.length ≤ vs.length then lookPs (few os).look ((vs.drop 0).take vs.length) else none) = _
    rw [if_pos (by omega), List.drop_zero, List.take_length]
    exact hps
/-- The first point's place is changed. -/
theorem poke {os : List (Option AObj)} {N : Nat} {w : V} {vs : List V} {cs : List (List Pl)} {p : Pl} {l : List Pl} (h : Conts os N w vs cs) (h0 : cs[0]? = some (p :: l)) (x : Int) :
    ∃ qw q v0 os', idxAddrV (.slice 1) w (some 0) = some (.ptr (some (qw, 0))) ∧ loadV (few os) false 1 (.ptr (some (qw, 0))) = some v0 ∧ idxAddrV (.slice 3) v0 (some 0) = some (.ptr (some (q, 0))) ∧ storeV (few os) 1 (.ptr (some (q, 0))) (some [.int .i64 x]) = some (V.undef, few os') ∧ (N ≤ q ∧ (os[q]?).join = some (.cells true (encG Pl.cells (p :: l)))) ∧
      OutG one1 1 os' N w vs ∧ (∀ (j : Nat) (v : V) (c : List Pl), vs[j]? = some v → (cs.set 0 (⟨x, p.y, p.on⟩ :: l))[j]? = some c → OutG Pl.cells 3 os' N v c) ∧ (∀ i, i ≠ q → (os'[i]?).join = (os[i]?).join) ∧ os'.length = os.length := by
  have hlc : 0 < cs.length := (List.getElem?_eq_some_iff.1 h0).1
  obtain ⟨v0, hv0⟩ : ∃ v0, vs[0]? = some v0 := ⟨_, List.getElem?_eq_getElem (by have := h.len; omega)⟩
  obtain ⟨e0, _⟩ := h.at_ 0 v0 _ hv0 h0
  obtain ⟨q, hq1, hq2, hq3⟩ := e0.made (by simp)
  obtain ⟨qw, _, _, hw, w3, _, w5⟩ := h.out.row (fun a => (rfl : (one1 a).length = 1)) hv0
  rw [Nat.zero_mul] at w3
  have w5 := w5 0 Nat.one_pos
  rw [Nat.zero_mul] at w5
  obtain ⟨os', hos'⟩ : ∃ os', os' = os.set q (some (.cells true (encG Pl.cells (⟨x, p.y, p.on⟩ :: l)))) := ⟨_, rfl⟩
  have hne : ∀ i, i ≠ q → (os'[i]?).join = (os[i]?).join := fun i hi => by rw [hos']; exact joinSet (fun h => hi h.symm)
  have hsame : (os'[q]?).join = some (.cells true (encG Pl.cells (⟨x, p.y, p.on⟩ :: l))) := by rw [hos']; exact joinSame (joinLt hq3)
  refine ⟨qw, q, v0, os', w3, w5, ?_, ?_, ⟨hq1, hq3⟩, ?_, fun j v c hv hc => ?_, hne, by rw [hos', List.length_set]⟩
  · rw [hq2, idxAddr_slice (by simp)]
  · rw [store_fewC, ownAt_eq, hq3]
    show storeC os 1 q 0 [.int .i64 x] (some (encG Pl.cells (p :: l))) = _
    rw [storeC_some, if_pos (show [V.int .i64 x].length = 1 from rfl), splice_of (by rw [encG_len (fun a => Pl.len a)]; simp; omega)]
    rw [hos']
    rfl
  · refine h.out.keepNe fun i hi o e n c f hwi => hne i fun e => ?_
    subst e
    -- one object cannot be both
    rcases h.out with ⟨hvs, _⟩ | ⟨q', _, k2, k3⟩
    · rw [hvs] at hv0; simp at hv0
    · rw [hwi] at k2
      injection k2 with e; injection e with e; injection e with e _
      subst e
      rw [hq3, one1_enc] at k3
      injection k3 with e
      injection e with _ e
      cases vs with
      | nil => simp at hv0
      | cons u vs =>
        have e : V.int .i64 p.x = u := (List.cons.inj e).1
        simp at hv0
        rw [← hv0, ← e] at hq2
        cases hq2
  · cases j with
    | zero =>
      rw [hv0] at hv
      cases hv
      rw [List.getElem?_set_self hlc] at hc
      cases hc
      exact .inr ⟨q, ⟨hq1, by simp⟩, by rw [hq2]; rfl, hsame⟩
    | succ j =>
      rw [List.getElem?_set_ne (by omega)] at hc
      obtain ⟨e1, _⟩ := h.at_ (j + 1) v c hv hc
      refine e1.keepNe fun i hi o e n c' f hvi => hne i fun e2 => ?_
      have := h.srt 0 (j + 1) v0 v (by omega) hv0 hv i o e n c' f hvi _ _ _ _ _ _ hq2
      omega

end Go.Vabs.Kl
