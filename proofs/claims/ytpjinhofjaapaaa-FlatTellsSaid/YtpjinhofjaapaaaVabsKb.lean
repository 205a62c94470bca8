/-
  Contours of raw numbers.
-/
import Derived.Test.YtpjinhofjaapaaaVabsKa
import Derived.Test.YtpjinhofjaapaaaVabsZg
namespace Go.Vabs.Kb
set_option linter.unusedVariables false
set_option linter.unusedSimpArgs false
set_option maxRecDepth 10000
def Contours_c (n_Pick : Nat) : AFunc := AFunc.mk 61 (.seq (.reg [AOper.mk (some (.i .h)) (.mv (.c (.slice none 0 0 0 true))) none]) (.seq (.reg [AOper.mk (some (.o (.o .h))) (.mv (.c (.slice none 0 0 0 true))) none]) (.seq (.reg [AOper.mk (some (.i (.o .h))) (.mv (.c (.slice none 0 0 0 true))) none]) (.seq (.seq (.reg [AOper.mk (some (.o (.i .h))) (.mv (.c (.int .i64 (.ofNat 0)))) none]) (.block 0 (.loop (.seq (.seq (.reg [AOper.mk (some (.i (.o (.o .h)))) (.bin .add (.val .int) (.t (.o (.i .h))) (.c (.int .i64 (.ofNat 2)))) none, AOper.mk (some (.i (.i (.o .h)))) (.len .slice (.t .h)) none, AOper.mk (some (.o (.o (.i .h)))) (.bin .lss (.val .int) (.t (.i (.o (.o .h)))) (.t (.i (.i (.o .h))))) none, AOper.mk (some (.i (.o (.i .h)))) (.mv (.t (.o (.o (.i .h))))) none, AOper.mk (some (.i (.i (.i .h)))) (.bin .lss (.val .int) (.t (.o (.i .h))) (.c (.int .i64 (.ofNat 90)))) (some (.i (.o (.i .h)), true)), AOper.mk (some (.o (.o (.o (.o .h))))) (.pick (.t (.i (.o (.i .h)))) (.t (.i (.i (.i .h)))) (.c (.bool false))) none]) (.cond (.t (.o (.o (.o (.o .h))))) .skip (.exit 0))) (.seq (.block 1 (.seq (.reg [AOper.mk (some (.i (.o (.i (.o .h))))) (.bin .add (.val .int) (.t (.o (.i .h))) (.c (.int .i64 (.ofNat 2)))) none, AOper.mk (some (.o (.i (.i (.o .h))))) (.idxAddr (.slice 1) (.t .h) (.t (.i (.o (.i (.o .h)))))) none, AOper.mk (some (.i (.i (.i (.o .h))))) (.load false 1 (.t (.o (.i (.i (.o .h)))))) none, AOper.mk (some (.o (.o (.o (.i .h))))) (.call n_Pick [.t (.i (.i (.i (.o .h)))), .c (.int .i64 (.ofNat 12))]) none, AOper.mk (some (.i (.i .h))) (.mv (.t (.o (.o (.o (.i .h)))))) none]) (.seq (.dreg [(AOper.mk (some (.i (.o (.o (.i .h))))) (.mv (.t (.i (.o .h)))) none, []), (AOper.mk (some (.o (.i (.o (.i .h))))) (.mv (.t .h)) none, []), (AOper.mk (some (.i (.i (.o (.i .h))))) (.mv (.t (.o (.i .h)))) none, []), (AOper.mk (some (.o (.o (.i (.i .h))))) (.idxAddr (.slice 1) (.t (.o (.i (.o (.i .h))))) (.t (.i (.i (.o (.i .h)))))) none, []), (AOper.mk (some (.i (.o (.i (.i .h))))) (.load false 1 (.t (.o (.o (.i (.i .h)))))) none, [11]), (AOper.mk (some (.o (.i (.i (.i .h))))) (.call n_Pick [.t (.i (.o (.i (.i .h)))), .c (.int .i64 (.ofNat 1201))]) none, [11]), (AOper.mk (some (.i (.i (.i (.i .h))))) (.bin .sub (.val .int) (.t (.o (.i (.i (.i .h))))) (.c (.int .i64 (.ofNat 100)))) none, []), (AOper.mk (some (.o (.o (.o (.o (.o .h)))))) (.mv (.t .h)) none, []), (AOper.mk (some (.i (.o (.o (.o (.o .h)))))) (.mv (.t (.o (.i .h)))) none, []), (AOper.mk (some (.o (.i (.o (.o (.o .h)))))) (.bin .add (.val .int) (.t (.i (.o (.o (.o (.o .h)))))) (.c (.int .i64 (.ofNat 1)))) none, []), (AOper.mk (some (.i (.i (.o (.o (.o .h)))))) (.idxAddr (.slice 1) (.t (.o (.o (.o (.o (.o .h)))))) (.t (.o (.i (.o (.o (.o .h))))))) none, []), (AOper.mk (some (.o (.o (.i (.o (.o .h)))))) (.load false 1 (.t (.i (.i (.o (.o (.o .h))))))) none, [4, 5]), (AOper.mk (some (.i (.o (.i (.o (.o .h)))))) (.call n_Pick [.t (.o (.o (.i (.o (.o .h))))), .c (.int .i64 (.ofNat 1201))]) none, []), (AOper.mk (some (.o (.i (.i (.o (.o .h)))))) (.bin .sub (.val .int) (.t (.i (.o (.i (.o (.o .h)))))) (.c (.int .i64 (.ofNat 300)))) none, []), (AOper.mk (some (.i (.i (.i (.o (.o .h)))))) (.mv (.t (.i (.i .h)))) none, []), (AOper.mk (some (.o (.o (.o (.i (.o .h)))))) (.bin .gtr (.val .int) (.t (.i (.i (.i (.o (.o .h)))))) (.c (.int .i64 (.ofNat 3)))) none, []), (AOper.mk (some (.i (.o (.o (.i (.o .h)))))) (.build [.int .i64 (.ofNat 0), .int .i64 (.ofNat 0), .bool false] [(0, (1, .t (.i (.i (.i (.i .h)))))), (1, (1, .t (.o (.i (.i (.o (.o .h))))))), (2, (1, .t (.o (.o (.o (.i (.o .h)))))))]) none, []), (AOper.mk (some (.o (.i (.o (.i (.o .h)))))) (.bslice 3 1 [.int .i64 (.ofNat 0), .int .i64 (.ofNat 0), .bool false] [(0, (3, .t (.i (.o (.o (.i (.o .h)))))))]) none, []), (AOper.mk (some (.i (.i (.o (.i (.o .h)))))) (.append 3 24 (.t (.i (.o (.o (.i .h))))) (.t (.o (.i (.o (.i (.o .h))))))) none, []), (AOper.mk (some (.i (.o .h))) (.mv (.t (.i (.i (.o (.i (.o .h))))))) none, [])]) (.seq (.reg [AOper.mk (some (.i (.o (.i (.i (.o .h)))))) (.bin .eql (.val .int) (.t (.i (.i .h))) (.c (.int .i64 (.ofNat 11)))) none, AOper.mk (some (.o (.i (.i (.i (.o .h)))))) (.mv (.t (.i (.o (.i (.i (.o .h))))))) none, AOper.mk (some (.o (.o (.o (.o (.i .h)))))) (.bin .eql (.val .int) (.t (.i (.i .h))) (.c (.int .i64 (.ofNat 0)))) (some (.o (.i (.i (.i (.o .h)))), false)), AOper.mk (some (.i (.o (.o (.o (.i .h)))))) (.pick (.t (.o (.i (.i (.i (.o .h)))))) (.c (.bool true)) (.t (.o (.o (.o (.o (.i .h))))))) none]) (.cond (.t (.i (.o (.o (.o (.i .h)))))) (.seq (.reg [AOper.mk (some (.o (.o (.i (.o (.i .h)))))) (.bslice 1 1 [.slice none 0 0 0 true] [(0, (1, .t (.i (.o .h))))]) none, AOper.mk (some (.i (.o (.i (.o (.i .h)))))) (.append 1 24 (.t (.o (.o .h))) (.t (.o (.o (.i (.o (.i .h))))))) none, AOper.mk (some (.o (.o .h))) (.mv (.t (.i (.o (.i (.o (.i .h))))))) none]) (.reg [AOper.mk (some (.i (.o .h))) (.mv (.c (.slice none 0 0 0 true))) none])) .skip))))) (.reg [AOper.mk (some (.o (.i (.o (.o .h))))) (.bin .add (.val .int) (.t (.o (.i .h))) (.c (.int .i64 (.ofNat 3)))) none, AOper.mk (some (.o (.i .h))) (.mv (.t (.o (.i (.o (.o .h)))))) none])))))) (.seq (.seq (.reg [AOper.mk (some (.i (.i (.i (.o (.i .h)))))) (.len .slice (.t (.i (.o .h)))) none, AOper.mk (some (.o (.o (.o (.i (.i .h)))))) (.bin .gtr (.val .int) (.t (.i (.i (.i (.o (.i .h)))))) (.c (.int .i64 (.ofNat 0)))) none]) (.cond (.t (.o (.o (.o (.i (.i .h)))))) (.reg [AOper.mk (some (.i (.i (.o (.i (.i .h)))))) (.bslice 1 1 [.slice none 0 0 0 true] [(0, (1, .t (.i (.o .h))))]) none, AOper.mk (some (.o (.o (.i (.i (.i .h)))))) (.append 1 24 (.t (.o (.o .h))) (.t (.i (.i (.o (.i (.i .h))))))) none, AOper.mk (some (.o (.o .h))) (.mv (.t (.o (.o (.i (.i (.i .h))))))) none]) .skip)) (.seq (.reg [AOper.mk (some (.i .h)) (.mv (.t (.o (.o .h)))) none]) .ret)))))) [.tmp (.i .h)]
attribute [local simp] wp_skip wp_ret wp_exit wp_reg wp_seq wp_cond wp_block thenQ_normal thenQ_ret thenQ_exit blockQ_normal blockQ_ret blockQ_exit wpCond_true wpCond_false wpOps_nil wpVal_some wpGuard_true wpGuard_false wpOps_guard wpOps_cons
  put_at put_no ev_c ev_slot posEq_h posEq_o posEq_i posEq_ho posEq_hi posEq_oh posEq_ih posEq_oi posEq_io sel_true sel_false
  okv_some step_mv step_call step_pick pickV_bool step_bin bin_add bin_sub bin_mul bin_eql bin_neq bin_lss bin_leq bin_gtr bin_geq bin_eqb bin_neb bin_eqs bin_nes step_un un_not un_neg step_len len_slice len_str len_const step_extract extractV nth step_convInt conv_int step_convStr step_slice step_idxAddr natOf_nat step_load step_index step_field step_fieldAddr step_build step_minmax
  step_alloc step_bslice bsliceV_some newV_some step_store step_append boolIs_b boolIs_t finQ_ret finQ_normal ressE_nil ressE_cons resE_tmp consO_some initE_nil initE_cons pos_0 pos_1 pos_2 pos_3 pos_4 pos_5 pos_6 pos_7 pos_8 plain_bool plain_int plain_str plain_ptr plain_slice plain_map plain_agg plain_func plain_nilFunc V.undef oneOf_one oneOf_two ble_self
open Go.Vabs.Ph Go.Vabs.Fl Go.Vabs.Ka
attribute [local simp] step_nilchk nilchk_ptr step_box cells_int cells_bool cells_str cells_slice cells_ptr cells_agg fieldAddrV natOf_zero fill repN splice over newV
  wp_dreg wpDs_nil wpDs_cons wantedE_none wantedE_some wpDGuard_true wpDGuard_lim wpDGuard_false wpDLim_true wpDVal_free wpDVal_lim back_limited next_limited limF_dir limF_false foot_load foot_convStr okAll_nil okAll_cons pastsOf nthP ahead few_next load_limited okPair_dd okPair_dc okPair_cd okPair_cc anyIn_nil anyIn_same anyIn_cons meets_nil meets_nil' blt_dec
theorem lenOf_sl {a : Option (Nat × Nat)} {e n c : Nat} {f : Bool} : lenOf (.slice a e n c f) = some n := rfl
theorem firstNo_some {st : St} {e m : Nat} {v : V} : firstNo st e (some m) v = firstN st e m v := rfl
/-- Whole numbers in memory. -/
structure InI (os : List (Option AObj)) (v : V) (ns : List Int) : Prop where
  len : ∀ st, lenV st .slice v = some (.int .i64 (ns.length : Int))
  at_ : ∀ j x, ns[j]? = some x → ∃ q o, idxAddrV (.slice 1) v (some j) = some (.ptr (some (q, o))) ∧ q < os.length ∧ loadV (few os) false 1 (.ptr (some (q, o))) = some (.int .i64 x)
theorem InI.keep {os os' : List (Option AObj)} {v : V} {ns : List Int} (h : InI os v ns) (he : ∀ i, i < os.length → (os'[i]?).join = (os[i]?).join) (hl : os.length ≤ os'.length) : InI os' v ns := by
  refine ⟨h.len, fun j x hx => ?_⟩
  obtain ⟨q, o, h1, h2, h3⟩ := h.at_ j x hx
  refine ⟨q, o, h1, by omega, ?_⟩
  rw [load_fewC, cellsAt_eq, he q h2, ← cellsAt_eq, ← load_fewC]
  exact h3
theorem InI.of {os : List (Option AObj)} {nil : Bool} {ns : List Int} {i : Nat} (hn : nil = true → ns = []) (h : nil = false → (os[i]?).join = some (.cells false (intsV .i64 ns))) : InI os (slAt nil i ns.length) ns := by
  refine ⟨fun st => rfl, fun j x hx => ?_⟩
  have hlt := (List.getElem?_eq_some_iff.1 hx).1
  cases nil with
  | true => rw [hn rfl] at hlt; simp at hlt
  | false =>
    have h := h rfl
    refine ⟨i, 0 + j * 1, idxAddr_slice hlt, joinLt h, ?_⟩
    rw [load_few h, Nat.zero_add, Nat.mul_one, intsV_at, hx]
    rfl
/-- Contours in memory. -/
def one1 (v : V) : List V := [v]
/-- Each stands behind those ahead of it. -/
def Srt (vs : List V) : Prop := ∀ (j j' : Nat) (v v' : V), j < j' → vs[j]? = some v → vs[j']? = some v' → ∀ q o e n c f, v' = .slice (some (q, o)) e n c f → blw q v
theorem Srt.snoc {vs : List V} {v : V} {M : Nat} (h : Srt vs) (hb : ∀ u ∈ vs, blw M u) (hv : ∀ q o e n c f, v = .slice (some (q, o)) e n c f → M ≤ q) : Srt (vs ++ [v]) := by
  intro j j' u u' hj hu hu' q o e n c f hq
  rcases Nat.lt_or_ge j' vs.length with h1 | h1
  · rw [List.getElem?_append_left h1] at hu'
    rw [List.getElem?_append_left (by omega)] at hu
    exact h j j' u u' hj hu hu' q o e n c f hq
  · have h2 : j' = vs.length := by
      rcases Nat.eq_or_lt_of_le h1 with h | h
      · exact h.symm
      · rw [List.getElem?_eq_none (by simp; omega)] at hu'; cases hu'
    subst h2
    rw [List.getElem?_append_right (Nat.le_refl _), Nat.sub_self] at hu'
    cases hu'
    rw [List.getElem?_append_left hj] at hu
    exact fun q' o' e' n' c' f' hq' => Nat.lt_of_lt_of_le (hb u (List.mem_of_getElem? hu) _ _ _ _ _ _ hq') (hv _ _ _ _ _ _ hq)
structure Conts (os : List (Option AObj)) (N : Nat) (w : V) (vs : List V) (cs : List (List Pl)) : Prop where
  out : OutG one1 1 os N w vs
  len : vs.length = cs.length
  at_ : ∀ (j : Nat) (v : V) (c : List Pl), vs[j]? = some v → cs[j]? = some c → OutG Pl.cells 3 os N v c ∧ c ≠ []
  few : cs.length ≤ 31 ∧ ∀ c ∈ cs, c.length ≤ 31
  srt : Srt vs
def ContF (call : CallT) (g : Nat) : Prop := ∀ os v ns, InI os v ns → (∀ n ∈ ns, in64 n) → ns.length ≤ 140737488351232 → ∃ w os' vs cs, call g [v] (few os) = some (w, few os') ∧ Conts os' os.length w vs cs ∧ (∀ i, i < os.length → (os'[i]?).join = (os[i]?).join) ∧ os.length ≤ os'.length
set_option maxHeartbeats 2000000 in
theorem Contours_run {call : CallT} {lf nP : Nat} (hlf : 31 < lf) (hP : PickF call nP) {os : List (Option AObj)} {v : V} {ns : List Int} (h : InI os v ns) (hns : ∀ n ∈ ns, in64 n) (hl : ns.length ≤ 140737488351232) :
    ∃ w os' vs cs, enterF call lf [v] (few os) (Contours_c nP) = some (w, few os') ∧ Conts os' os.length w vs cs ∧ (∀ i, i < os.length → (os'[i]?).join = (os[i]?).join) ∧ os.length ≤ os'.length := by
  obtain ⟨N, hN⟩ : ∃ N, N = os.length := ⟨_, rfl⟩
  rw [← hN]
  have main := enter_wp (call := call) (lf := lf) (n := 61) (args := [v]) (st := few os) (K := fun w st => ∃ os' vs cs, st = few os' ∧ Conts os' N w vs cs ∧ (∀ i, i < N → (os'[i]?).join = (os[i]?).join) ∧ N ≤ os'.length) (c := (Contours_c nP).code) (rs := (Contours_c nP).results) ?_
  · obtain ⟨w, st', h1, os', vs, cs, rfl, h2⟩ := main
    exact ⟨w, os', vs, cs, h1, h2⟩
  · unfold Contours_c
    dsimp only
    have hlen := h.len
    obtain ⟨n, hn⟩ : ∃ n, n = ns.length := ⟨_, rfl⟩
    rw [← hn] at hlen hl
    simp
    refine wp_loop (fun k s st => ∃ (os' : List (Option AObj)) (j M1 M : Nat) (vs : List V) (cs : List (List Pl)) (c : List Pl), st = few os' ∧ j + k = 31 ∧ s .h = v ∧ s (.o (.i .h)) = .int .i64 (3 * (j : Int)) ∧ (∀ i, i < N → (os'[i]?).join = (os[i]?).join) ∧ N ≤ M1 ∧ M1 ≤ M ∧ M ≤ os'.length ∧
        (∀ v' ∈ vs, blw M1 v') ∧ OutG one1 1 os' M1 (s (.o (.o .h))) vs ∧ blw M (s (.o (.o .h))) ∧ OutG Pl.cells 3 os' M (s (.i (.o .h))) c ∧ vs.length = cs.length ∧ (∀ (j' : Nat) (v' : V) (c' : List Pl), vs[j']? = some v' → cs[j']? = some c' → OutG Pl.cells 3 os' N v' c' ∧ c' ≠ []) ∧ cs.length + c.length ≤ j ∧ (∀ c' ∈ cs, c'.length ≤ j) ∧ Srt vs) 31 ?_ hlf ?_
    · refine ⟨os, 0, N, N, [], [], [], rfl, rfl, ?_, ?_, fun _ _ => rfl, Nat.le_refl _, Nat.le_refl _, by omega, fun _ h => (by cases h), .inl ⟨rfl, ?_⟩, ?_, .inl ⟨rfl, ?_⟩, rfl, fun _ _ _ h => (by cases h), by simp, fun _ h => (by cases h), fun j j' v v' _ h => by simp at h⟩
      all_goals simp
      intro q o e n c f hq
      cases hq
    · rintro k s st ⟨os', j, M1, M, vs, cs, c, rfl, hk, s1, s2, hold, m1, m2, m3, hvs, ho, hob, hc, hvl, hat, hcn, hcl, hsrt⟩
      have hin := h.keep (os' := os') (fun i hi => hold i (by omega)) (by omega)
      obtain ⟨ov, hov⟩ : ∃ ov, s (.o (.o .h)) = ov := ⟨_, rfl⟩
      obtain ⟨cv, hcv⟩ : ∃ cv, s (.i (.o .h)) = cv := ⟨_, rfl⟩
      rw [hov] at ho hob
      rw [hcv] at hc
      have hcl' := hc.lenV
      have hp1 := hc.plain
      have hp2 := ho.plain
      by_cases hgo : 3 * j + 2 < n ∧ j < 30
      · obtain ⟨hgo1, hgo2⟩ := hgo
        have hx : ∀ m, m < n → ∃ x, ns[m]? = some x ∧ in64 x := fun m hm => by
          obtain ⟨x, hx⟩ : ∃ x, ns[m]? = some x := ⟨_, List.getElem?_eq_getElem (by omega)⟩
          exact ⟨x, hx, hns x (List.mem_of_getElem? hx)⟩
        obtain ⟨x0, hx0, _⟩ := hx (3 * j) (by omega)
        obtain ⟨x1, hx1, _⟩ := hx (3 * j + 1) (by omega)
        obtain ⟨x2, hx2, _⟩ := hx (3 * j + 2) (by omega)
        obtain ⟨q0, o0, a0, b0, l0⟩ := hin.at_ _ _ hx0
        obtain ⟨q1, o1, a1, b1, l1⟩ := hin.at_ _ _ hx1
        obtain ⟨q2, o2, a2, b2, l2⟩ := hin.at_ _ _ hx2
        have n0 : natOf (.int .i64 (3 * (j : Int))) = some (3 * j) := (natOf_int (by omega)).trans (congrArg some (by omega))
        have n1 : natOf (.int .i64 (3 * (j : Int) + 1)) = some (3 * j + 1) := (natOf_int (by omega)).trans (congrArg some (by omega))
        have n2 : natOf (.int .i64 (3 * (j : Int) + 2)) = some (3 * j + 2) := (natOf_int (by omega)).trans (congrArg some (by omega))
        have p0 := fun st => hP x0 1201 st (by omega) (by omega)
        have p1 := fun st => hP x1 1201 st (by omega) (by omega)
        have p2 := fun st => hP x2 12 st (by omega) (by omega)
        have k0 := pickI_lt (n := x0) (m := 1201) (by omega)
        have k1 := pickI_lt (n := x1) (m := 1201) (by omega)
        have k2 := pickI_lt (n := x2) (m := 12) (by omega)
        obtain ⟨y0, hy0⟩ : ∃ y0, y0 = pickI x0 1201 := ⟨_, rfl⟩
        obtain ⟨y1, hy1⟩ : ∃ y1, y1 = pickI x1 1201 := ⟨_, rfl⟩
        obtain ⟨y2, hy2⟩ : ∃ y2, y2 = pickI x2 12 := ⟨_, rfl⟩
        simp only [← hy0] at p0 k0
        simp only [← hy1] at p1 k1
        simp only [← hy2] at p2 k2
        obtain ⟨pt, hpt⟩ : ∃ pt : Pl, pt = ⟨y0 - 100, y1 - 300, decide (3 < y2)⟩ := ⟨_, rfl⟩
        obtain ⟨A, hA⟩ : ∃ A, A = os' ++ [some (.cells true pt.cells)] := ⟨_, rfl⟩
        have alA : (few os').alloc (.cells true [.int .i64 (y0 - 100), .int .i64 (y1 - 300), .bool (decide (3 < y2))]) = some (os'.length, few A) := by rw [few_alloc, hA, hpt]; rfl
        have hAl : A.length = os'.length + 1 := by rw [hA]; simp
        have hAo : ∀ i, i < os'.length → (A[i]?).join = (os'[i]?).join := fun i hi => by rw [hA, joinApp hi]
        have hAe : (A[os'.length]?).join = some (.cells true pt.cells) := by rw [hA, joinEnd]
        have fr := firstRow (f := true) (fun a => Pl.len a) hAe
        obtain ⟨cv', B, g1, g2, g3, g4⟩ := (hc.keepAll hAo).grow1 (fun a => Pl.len a) (nb := [pt]) (bytes := 24) (by simp) (by simp; omega)
        have g1 : appendV (few A) 3 24 cv (some 1) (some (encG Pl.cells [pt])) = some (cv', few B) := g1
        have gp := g2.plain
        have hBo : ∀ i, i < os'.length → i < M → (B[i]?).join = (os'[i]?).join := fun i hi hM => by
          rw [g3 i (by omega) (fun q o e n c f hq e2 => by have := hc.above hq; omega), hAo i hi]
        have gc := g2.cells
        have gb := g2.base
        by_cases hend : y2 = 11 ∨ y2 = 0
        · obtain ⟨B', hB'⟩ : ∃ B', B' = B ++ [some (.cells true (one1 cv'))] := ⟨_, rfl⟩
          have alB : (few B).alloc (.cells true [cv']) = some (B.length, few B') := by rw [few_alloc, hB']; rfl
          have hBl' : B'.length = B.length + 1 := by rw [hB']; simp
          have hBo' : ∀ i, i < B.length → (B'[i]?).join = (B[i]?).join := fun i hi => by rw [hB', joinApp hi]
          have hBe : (B'[B.length]?).join = some (.cells true (one1 cv')) := by rw [hB', joinEnd]
          have fr2 := firstRow (f := true) (fun a => (rfl : (one1 a).length = 1)) hBe
          have hoB := ho.keepNe (os' := B) (fun i hi o e n c f hv => hBo i hi (hob _ _ _ _ _ _ hv))
          have hvn : vs.length ≤ 31 := by omega
          obtain ⟨ov', D, r1, r2, r3, r4⟩ := (hoB.keepAll hBo').grow1 (fun a => (rfl : (one1 a).length = 1)) (nb := [cv']) (bytes := 24) (by simp) (by simp; omega)
          have r1 : appendV (few B') 1 24 ov (some 1) (some (encG one1 [cv'])) = some (ov', few D) := r1
          have rp := r2.plain
          have hDo : ∀ i, i < B.length → (∀ o e n c f, ov = .slice (some (i, o)) e n c f → False) → (D[i]?).join = (B[i]?).join := fun i hi hq => by
            rw [r3 i (by omega) (fun q o e n c f h1 h2 => by subst h2; exact hq _ _ _ _ _ h1), hBo' i hi]
          have dd : ∀ b : Bool, (y2 = 11 → b = true) → True := fun _ _ => trivial
          have tail : ∃ m, m < k ∧ ∃ os'', few D = few os'' ∧ ∃ x : Nat, x + m = 31 ∧ 3 * (j : Int) + 3 = 3 * (x : Int) ∧ (∀ i, i < N → (os''[i]?).join = (os[i]?).join) ∧ ∃ x1, N ≤ x1 ∧ ∃ x2, x1 ≤ x2 ∧ x2 ≤ os''.length ∧ ∃ x3 : List V, (∀ v' ∈ x3, blw x1 v') ∧ OutG one1 1 os'' x1 ov' x3 ∧ blw x2 ov' ∧ ∃ (x4 : List (List Pl)) (x5 : List Pl), OutG Pl.cells 3 os'' x2 (.slice none 0 0 0 true) x5 ∧ x3.length = x4.length ∧ (∀ (j' : Nat) (v' : V) (c' : List Pl), x3[j']? = some v' → x4[j']? = some c' → OutG Pl.cells 3 os'' N v' c' ∧ ¬c' = []) ∧ x4.length + x5.length ≤ x ∧ (∀ c' ∈ x4, c'.length ≤ x) ∧ Srt x3 := by
            refine ⟨k - 1, by omega, D, rfl, j + 1, by omega, by omega, fun i hi => ?_, B'.length, by omega, D.length, r4, Nat.le_refl _, vs ++ [cv'], fun v' hv' => ?_, r2, r2.blw, cs ++ [c ++ [pt]], [], .inl ⟨rfl, rfl⟩, by simp [hvl], fun j' v' c' h1 h2 => ?_, by simp; omega, fun c' h => ?_, hsrt.snoc hvs (fun q o e n c f hq => by have := g2.above hq; omega)⟩
            · rw [hDo i (by omega) (fun o e n c f hq => by have := ho.above hq; omega), hBo i (by omega) (by omega), hold i hi]
            · rcases List.mem_append.1 hv' with h | h
              · exact fun q o e n c f hq => Nat.lt_of_lt_of_le (hvs v' h _ _ _ _ _ _ hq) (by omega)
              · rw [List.mem_singleton] at h
                subst h
                exact fun q o e n c f hq => Nat.lt_of_lt_of_le (g2.blw _ _ _ _ _ _ hq) (by omega)
            · rcases Nat.lt_or_ge j' vs.length with hj | hj
              · rw [List.getElem?_append_left hj] at h1
                rw [List.getElem?_append_left (by omega)] at h2
                obtain ⟨e1, e2⟩ := hat j' v' c' h1 h2
                have hlow := hvs v' (List.mem_of_getElem? h1)
                refine ⟨e1.keepNe (fun i hi o e n c f hv => ?_), e2⟩
                have hiM := hlow _ _ _ _ _ _ hv
                rw [hDo i (by omega) (fun o e n c f hq => by have := ho.above hq; omega), hBo i hi (by omega)]
              · rw [List.getElem?_append_right hj] at h1
                rw [List.getElem?_append_right (by omega)] at h2
                have hz : j' - vs.length = 0 := by
                  rcases Nat.eq_zero_or_pos (j' - vs.length) with h | h
                  · exact h
                  · rw [List.getElem?_eq_none (by simp; omega)] at h1; cases h1
                rw [hz] at h1
                rw [← hvl, hz] at h2
                cases h1
                cases h2
                refine ⟨(g2.lower (M := N) (by omega)).keepNe (fun i hi o e n c f hv => ?_), by simp⟩
                have := g2.above hv
                rw [hDo i hi (fun o e n c f hq => by have := hob _ _ _ _ _ _ hq; omega)]
            · rcases List.mem_append.1 h with h | h
              · have := hcl c' h; omega
              · rw [List.mem_singleton] at h
                subst h
                simp
                omega
          rcases hend with hend | hend
          · have d1 : decide (y2 = 11) = true := decide_eq_true hend
            rw [decide_eq_true (show 3 < y2 by omega)] at alA
            simp (disch := omega) [s1, s2, hov, hcv, hlen, a0, a1, a2, l0, l1, l2, n0, n1, n2, p0, p1, p2, alA, lenOf_sl, firstNo_some, fr, g1, d1, wrap_i, dlt_t, load_d, foot_call, idOf, gc, gp, alB, fr2, r1]
            exact tail
          · have d1 : decide (y2 = 11) = false := decide_eq_false (by omega)
            have d2 : decide (y2 = 0) = true := decide_eq_true hend
            simp (disch := omega) [s1, s2, hov, hcv, hlen, a0, a1, a2, l0, l1, l2, n0, n1, n2, p0, p1, p2, alA, lenOf_sl, firstNo_some, fr, g1, d1, d2, wrap_i, dlt_t, load_d, foot_call, idOf, gc, gp, alB, fr2, r1]
            exact tail
        · have d1 : decide (y2 = 11) = false := decide_eq_false (fun e => hend (.inl e))
          have d2 : decide (y2 = 0) = false := decide_eq_false (fun e => hend (.inr e))
          simp (disch := omega) [s1, s2, hov, hcv, hlen, a0, a1, a2, l0, l1, l2, n0, n1, n2, p0, p1, p2, alA, lenOf_sl, firstNo_some, fr, g1, d1, d2, wrap_i, dlt_t, load_d, foot_call, idOf]
          refine ⟨k - 1, by omega, B, rfl, j + 1, by omega, by omega, fun i hi => by rw [hBo i (by omega) (by omega), hold i hi], M1, m1, M, m2, by omega, vs, hvs, ho.keepNe (fun i hi o e n c f hv => hBo i hi (hob _ _ _ _ _ _ hv)), hob, cs, c ++ [pt], g2.lower (by omega), hvl, fun j' v' c' h1 h2 => ?_, by simp; omega, fun c' h => by have := hcl c' h; omega, hsrt⟩
          obtain ⟨e1, e2⟩ := hat j' v' c' h1 h2
          exact ⟨e1.keepNe (fun i hi o e n c f hv => hBo i hi (Nat.lt_of_lt_of_le (hvs v' (List.mem_of_getElem? h1) _ _ _ _ _ _ hv) m2)), e2⟩
      · have hexit : ∃ st', few os' = st' := ⟨_, rfl⟩
        -- the end
        have fin : c = [] ∨ c ≠ [] := by by_cases h : c = [] <;> simp [h]
        have hcnt : (c.length : Int) ≤ 31 := by omega
        by_cases hc0 : c = []
        · subst hc0
          have hcl0 : ∀ st, lenV st .slice cv = some (.int .i64 0) := hcl'
          have fin : ∃ os'' vs cs, few os' = few os'' ∧ Conts os'' N ov vs cs ∧ (∀ i, i < N → (os''[i]?).join = (os[i]?).join) ∧ N ≤ os''.length :=
            ⟨os', vs, cs, rfl, ⟨ho.lower (by omega), hvl, hat, ⟨by omega, fun c' h => by have := hcl c' h; omega⟩, hsrt⟩, hold, by omega⟩
          by_cases h1 : 3 * j + 2 < n
          · have h2 : ¬ j < 30 := fun h => hgo ⟨h1, h⟩
            simp (disch := omega) [s1, s2, hov, hcv, hlen, wrap_i, dlt_t, dlt_f, hcl0, hp2]
            obtain ⟨os'', vs, cs, e1, e2, e3, e4⟩ := fin
            exact ⟨os'', e1, ⟨vs, cs, e2⟩, e3, e4⟩
          · simp (disch := omega) [s1, s2, hov, hcv, hlen, wrap_i, dlt_t, dlt_f, hcl0, hp2]
            obtain ⟨os'', vs, cs, e1, e2, e3, e4⟩ := fin
            exact ⟨os'', e1, ⟨vs, cs, e2⟩, e3, e4⟩
        · have hlpos : 0 < c.length := List.length_pos_iff.2 hc0
          obtain ⟨m, hm⟩ : ∃ m, m = c.length := ⟨_, rfl⟩
          rw [← hm] at hcl' hlpos
          obtain ⟨B', hB'⟩ : ∃ B', B' = os' ++ [some (.cells true (one1 cv))] := ⟨_, rfl⟩
          have alB : (few os').alloc (.cells true [cv]) = some (os'.length, few B') := by rw [few_alloc, hB']; rfl
          have hBl' : B'.length = os'.length + 1 := by rw [hB']; simp
          have hBo' : ∀ i, i < os'.length → (B'[i]?).join = (os'[i]?).join := fun i hi => by rw [hB', joinApp hi]
          have hBe : (B'[os'.length]?).join = some (.cells true (one1 cv)) := by rw [hB', joinEnd]
          have fr2 := firstRow (f := true) (fun a => (rfl : (one1 a).length = 1)) hBe
          have gc := hc.cells
          obtain ⟨ov', D, r1, r2, r3, r4⟩ := (ho.keepAll hBo').grow1 (fun a => (rfl : (one1 a).length = 1)) (nb := [cv]) (bytes := 24) (by simp) (by simp; omega)
          have r1 : appendV (few B') 1 24 ov (some 1) (some (encG one1 [cv])) = some (ov', few D) := r1
          have rp := r2.plain
          have hDo : ∀ i, i < os'.length → (∀ o e n c f, ov = .slice (some (i, o)) e n c f → False) → (D[i]?).join = (os'[i]?).join := fun i hi hq => by
            rw [r3 i (by omega) (fun q o e n c f h1 h2 => by subst h2; exact hq _ _ _ _ _ h1), hBo' i hi]
          have fin : ∃ os'' vs cs, few D = few os'' ∧ Conts os'' N ov' vs cs ∧ (∀ i, i < N → (os''[i]?).join = (os[i]?).join) ∧ N ≤ os''.length := by
            refine ⟨D, vs ++ [cv], cs ++ [c], rfl, ⟨r2.lower (by omega), by simp [hvl], fun j' v' c' h1 h2 => ?_, ⟨by simp; omega, fun c' h => ?_⟩, hsrt.snoc hvs (fun q o e n c f hq => by have := hc.above hq; omega)⟩, fun i hi => ?_, by omega⟩
            · rcases Nat.lt_or_ge j' vs.length with hj | hj
              · rw [List.getElem?_append_left hj] at h1
                rw [List.getElem?_append_left (by omega)] at h2
                obtain ⟨e1, e2⟩ := hat j' v' c' h1 h2
                have hlow := hvs v' (List.mem_of_getElem? h1)
                refine ⟨e1.keepNe (fun i hi o e n c f hv => ?_), e2⟩
                have hiM := hlow _ _ _ _ _ _ hv
                rw [hDo i (by omega) (fun o e n c f hq => by have := ho.above hq; omega)]
              · rw [List.getElem?_append_right hj] at h1
                rw [List.getElem?_append_right (by omega)] at h2
                have hz : j' - vs.length = 0 := by
                  rcases Nat.eq_zero_or_pos (j' - vs.length) with h | h
                  · exact h
                  · rw [List.getElem?_eq_none (by simp; omega)] at h1; cases h1
                rw [hz] at h1
                rw [← hvl, hz] at h2
                cases h1
                cases h2
                refine ⟨(hc.lower (M := N) (by omega)).keepNe (fun i hi o e n c f hv => ?_), hc0⟩
                have := hc.above hv
                rw [hDo i hi (fun o e n c f hq => by have := hob _ _ _ _ _ _ hq; omega)]
            · rcases List.mem_append.1 h with h | h
              · have := hcl c' h; omega
              · rw [List.mem_singleton] at h
                subst h
                omega
            · rw [hDo i (by omega) (fun o e n c f hq => by have := ho.above hq; omega), hold i hi]
          by_cases h1 : 3 * j + 2 < n
          · have h2 : ¬ j < 30 := fun h => hgo ⟨h1, h⟩
            simp (disch := omega) [s1, s2, hov, hcv, hlen, wrap_i, dlt_t, dlt_f, hcl', hlpos, gc, alB, lenOf_sl, firstNo_some, fr2, r1, rp, dltn_t]
            obtain ⟨os'', vs, cs, e1, e2, e3, e4⟩ := fin
            exact ⟨os'', e1, ⟨vs, cs, e2⟩, e3, e4⟩
          · simp (disch := omega) [s1, s2, hov, hcv, hlen, wrap_i, dlt_t, dlt_f, hcl', hlpos, gc, alB, lenOf_sl, firstNo_some, fr2, r1, rp, dltn_t]
            obtain ⟨os'', vs, cs, e1, e2, e3, e4⟩ := fin
            exact ⟨os'', e1, ⟨vs, cs, e2⟩, e3, e4⟩
theorem ContF.code {base : CallT} {g lf nP : Nat} (hlf : 31 < lf) (hP : PickF base nP) : ContF (Vabs.withF base g lf (Contours_c nP)) g := fun os v ns h1 h2 h3 => by
  rw [withF_same]; exact Contours_run hlf hP h1 h2 h3
theorem ContF.withF {call : CallT} {n g lf : Nat} {fn : AFunc} (h : ContF call n) (hne : n ≠ g) : ContF (Vabs.withF call g lf fn) n := fun os v ns a b c => by rw [withF_other hne]; exact h os v ns a b c
theorem ContF.other {call : CallT} {n g : Nat} {l : List V → St → Option (V × St)} (h : ContF call n) (hne : n ≠ g) : ContF (withL call g l) n := fun os v ns a b c => by rw [withL_other hne]; exact h os v ns a b c

end Go.Vabs.Kb
