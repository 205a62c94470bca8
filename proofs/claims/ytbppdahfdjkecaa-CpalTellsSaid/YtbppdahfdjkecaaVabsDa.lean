/- Lemmas for this claim, text Da. No condition. -/
import Derived.Test.YtbppdahfdjkecaaVabsCa
import Derived.Test.YtbppdahfdjkecaaVabsSr
import Derived.Test.YtbppdahfdjkecaaVabsSh
namespace Go.Vabs.Da
set_option linter.unusedVariables false
set_option linter.unusedSimpArgs false
set_option maxRecDepth 10000
def palettes_c (n_Pick : Nat) (n_Color : Nat) : AFunc := AFunc.mk 53 (.seq (.reg [AOper.mk (some (.i (.i .h))) (.mv (.c (.slice none 0 0 0 true))) none]) (.seq (.reg [AOper.mk (some (.o (.o (.o .h)))) (.mv (.c (.slice none 0 0 0 true))) none]) (.seq (.seq (.reg [AOper.mk (some (.i (.o (.o .h)))) (.mv (.c (.int .i64 (.ofNat 0)))) none]) (.block 0 (.loop (.seq (.seq (.reg [AOper.mk (some (.i (.i (.i .h)))) (.call n_Pick [.t .h, .c (.int .i64 (.ofNat 5))]) none, AOper.mk (some (.o (.o (.o (.o .h))))) (.bin .lss (.val .int) (.t (.i (.o (.o .h)))) (.t (.i (.i (.i .h))))) none]) (.cond (.t (.o (.o (.o (.o .h))))) .skip (.exit 0))) (.seq (.block 1 (.seq (.reg [AOper.mk (some (.o (.i (.o .h)))) (.mv (.c (.slice none 0 0 0 true))) none]) (.seq (.seq (.reg [AOper.mk (some (.i (.i (.o .h)))) (.mv (.c (.int .i64 (.ofNat 0)))) none]) (.block 2 (.loop (.seq (.seq (.reg [AOper.mk (some (.i (.o (.i (.o .h))))) (.call n_Pick [.t (.o .h), .c (.int .i64 (.ofNat 7))]) none, AOper.mk (some (.o (.i (.i (.o .h))))) (.bin .lss (.val .int) (.t (.i (.i (.o .h)))) (.t (.i (.o (.i (.o .h)))))) none]) (.cond (.t (.o (.i (.i (.o .h))))) .skip (.exit 2))) (.seq (.block 3 (.seq (.reg [AOper.mk (some (.o (.i (.o (.i .h))))) (.bin .mul (.val .int) (.t (.i (.o (.o .h)))) (.c (.int .i64 (.ofNat 777)))) none, AOper.mk (some (.o (.o (.i (.i .h))))) (.bin .mul (.val .int) (.t (.i (.i (.o .h)))) (.c (.int .i64 (.ofNat 3333)))) none, AOper.mk (some (.i (.o (.i (.i .h))))) (.bin .add (.val .int) (.t (.o (.i (.o (.i .h))))) (.t (.o (.o (.i (.i .h)))))) none, AOper.mk (some (.o (.o (.i .h)))) (.mv (.t (.i (.o (.i (.i .h)))))) none]) (.seq (.seq (.reg [AOper.mk (some (.i (.i (.i (.i .h))))) (.bin .mul (.val .int) (.c (.int .i64 (.ofNat 7))) (.t (.i (.o (.o .h))))) none, AOper.mk (some (.i (.o (.o (.o (.o .h)))))) (.bin .add (.val .int) (.t (.i (.i (.i (.i .h))))) (.t (.i (.i (.o .h))))) none, AOper.mk (some (.i (.i (.o (.o (.o .h)))))) (.len .slice (.t (.i .h))) none, AOper.mk (some (.o (.o (.i (.o (.o .h)))))) (.bin .lss (.val .int) (.t (.i (.o (.o (.o (.o .h)))))) (.t (.i (.i (.o (.o (.o .h))))))) none]) (.cond (.t (.o (.o (.i (.o (.o .h)))))) (.reg [AOper.mk (some (.i (.i (.i (.o (.o .h)))))) (.bin .mul (.val .int) (.c (.int .i64 (.ofNat 7))) (.t (.i (.o (.o .h))))) none, AOper.mk (some (.i (.o (.o (.i (.o .h)))))) (.bin .add (.val .int) (.t (.i (.i (.i (.o (.o .h)))))) (.t (.i (.i (.o .h))))) none, AOper.mk (some (.o (.i (.o (.i (.o .h)))))) (.idxAddr (.slice 1) (.t (.i .h)) (.t (.i (.o (.o (.i (.o .h))))))) none, AOper.mk (some (.i (.i (.o (.i (.o .h)))))) (.load false 1 (.t (.o (.i (.o (.i (.o .h))))))) none, AOper.mk (some (.o (.o (.i .h)))) (.mv (.t (.i (.i (.o (.i (.o .h))))))) none]) .skip)) (.reg [AOper.mk (some (.o (.i (.i (.i (.o .h)))))) (.call n_Color [.t (.o (.o (.i .h)))]) none, AOper.mk (some (.i (.i (.i (.i (.o .h)))))) (.bslice 4 1 [.int .i64 (.ofNat 0), .int .i64 (.ofNat 0), .int .i64 (.ofNat 0), .int .i64 (.ofNat 0)] [(0, (4, .t (.o (.i (.i (.i (.o .h)))))))]) none, AOper.mk (some (.o (.o (.o (.o (.i .h)))))) (.append 4 32 (.t (.o (.i (.o .h)))) (.t (.i (.i (.i (.i (.o .h))))))) none, AOper.mk (some (.o (.i (.o .h)))) (.mv (.t (.o (.o (.o (.o (.i .h))))))) none])))) (.reg [AOper.mk (some (.o (.o (.o (.i .h))))) (.bin .add (.val .int) (.t (.i (.i (.o .h)))) (.c (.int .i64 (.ofNat 1)))) none, AOper.mk (some (.i (.i (.o .h)))) (.mv (.t (.o (.o (.o (.i .h)))))) none])))))) (.reg [AOper.mk (some (.i (.i (.o (.o (.i .h)))))) (.bslice 1 1 [.slice none 0 0 0 true] [(0, (1, .t (.o (.i (.o .h)))))]) none, AOper.mk (some (.o (.o (.i (.o (.i .h)))))) (.append 1 24 (.t (.o (.o (.o .h)))) (.t (.i (.i (.o (.o (.i .h))))))) none, AOper.mk (some (.o (.o (.o .h)))) (.mv (.t (.o (.o (.i (.o (.i .h))))))) none])))) (.reg [AOper.mk (some (.o (.i (.o (.o .h))))) (.bin .add (.val .int) (.t (.i (.o (.o .h)))) (.c (.int .i64 (.ofNat 1)))) none, AOper.mk (some (.i (.o (.o .h)))) (.mv (.t (.o (.i (.o (.o .h)))))) none])))))) (.seq (.reg [AOper.mk (some (.i (.i .h))) (.mv (.t (.o (.o (.o .h))))) none]) .ret)))) [.tmp (.i (.i .h))]
def Color_c (n_Pick : Nat) : AFunc := AFunc.mk 20 (.seq (.reg [AOper.mk (some (.i .h)) (.alloc [.int .i64 (.ofNat 0), .int .i64 (.ofNat 0), .int .i64 (.ofNat 0), .int .i64 (.ofNat 0)]) none]) (.seq (.reg [AOper.mk (some (.o (.o .h))) (.mv (.c (.int .i64 (.ofNat 255)))) none]) (.seq (.seq (.reg [AOper.mk (some (.o (.i .h))) (.call n_Pick [.t .h, .c (.int .i64 (.ofNat 3))]) none, AOper.mk (some (.i (.i .h))) (.bin .eql (.val .int) (.t (.o (.i .h))) (.c (.int .i64 (.ofNat 0)))) none]) (.cond (.t (.i (.i .h))) (.reg [AOper.mk (some (.i (.o (.o .h)))) (.bin .quo (.val .int) (.t .h) (.c (.int .i64 (.ofNat 3)))) none, AOper.mk (some (.o (.i (.o .h)))) (.call n_Pick [.t (.i (.o (.o .h))), .c (.int .i64 (.ofNat 256))]) none, AOper.mk (some (.o (.o .h))) (.mv (.t (.o (.i (.o .h))))) none]) .skip)) (.seq (.reg [AOper.mk (some (.o (.o (.i .h)))) (.call n_Pick [.t .h, .c (.int .i64 (.ofNat 256))]) none, AOper.mk (some (.o (.i (.i .h)))) (.bin .quo (.val .int) (.t .h) (.c (.int .i64 (.ofNat 256)))) none, AOper.mk (some (.i (.i (.i .h)))) (.call n_Pick [.t (.o (.i (.i .h))), .c (.int .i64 (.ofNat 256))]) none, AOper.mk (some (.i (.o (.o (.o .h))))) (.bin .quo (.val .int) (.t .h) (.c (.int .i64 (.ofNat 7)))) none, AOper.mk (some (.o (.i (.o (.o .h))))) (.call n_Pick [.t (.i (.o (.o (.o .h)))), .c (.int .i64 (.ofNat 256))]) none, AOper.mk (some (.o (.o (.i (.o .h))))) (.build [.int .i64 (.ofNat 0), .int .i64 (.ofNat 0), .int .i64 (.ofNat 0), .int .i64 (.ofNat 0)] [(0, (1, .t (.o (.o (.i .h))))), (1, (1, .t (.i (.i (.i .h))))), (2, (1, .t (.o (.i (.o (.o .h)))))), (3, (1, .t (.o (.o .h))))]) none, AOper.mk none (.store 4 (.t (.i .h)) (.t (.o (.o (.i (.o .h)))))) none]) .ret)))) [.cell (.i .h) true 4]
attribute [local simp] wp_skip wp_ret wp_exit wp_reg wp_seq wp_cond wp_block thenQ_normal thenQ_ret thenQ_exit blockQ_normal blockQ_ret blockQ_exit wpCond_true wpCond_false wpOps_nil wpVal_some wpGuard_true wpGuard_false wpOps_guard wpOps_cons
  put_at put_no ev_c ev_slot posEq_h posEq_o posEq_i posEq_ho posEq_hi posEq_oh posEq_ih posEq_oi posEq_io sel_true sel_false
  okv_some step_mv step_call step_pick pickV_bool step_bin bin_add bin_sub bin_mul bin_eql bin_neq bin_lss bin_leq bin_gtr bin_geq bin_eqb bin_neb bin_eqs bin_nes step_un un_not un_neg step_len len_slice len_str len_const step_extract extractV nth step_convInt conv_int step_convStr step_slice step_idxAddr natOf_nat step_load step_index step_field step_fieldAddr step_build step_minmax
  step_alloc step_bslice bsliceV_some newV_some step_store step_append boolIs_b boolIs_t finQ_ret finQ_normal ressE_nil ressE_cons resE_tmp consO_some initE_nil initE_cons pos_0 pos_1 pos_2 pos_3 pos_4 pos_5 pos_6 pos_7 pos_8 plain_bool plain_int plain_str plain_ptr plain_slice plain_map plain_agg plain_func plain_nilFunc V.undef oneOf_one oneOf_two ble_self
open Go.Vabs.Pk Go.Vabs.Ph Go.Vabs.Sa Go.Vabs.Sb Go.Vabs.Sc Go.Vabs.Sd Go.Vabs.Se Go.Vabs.Sg Go.Vabs.Sh Go.Vabs.Sm Go.Vabs.Sn Go.Vabs.Sp Go.Vabs.Sr Go.Vabs.St Go.Vabs.Su Go.Vabs.L2 Go.Vabs.Na Go.Vabs.Nb Go.Vabs.Ra Go.Vabs.Rb Go.Vabs.Rc Go.Vabs.Rd Go.Vabs.Re Go.Vabs.Ca Go.Vabs.Cb Go.Vabs.Vc
attribute [local simp] step_nilchk nilchk_ptr step_box cells_int cells_bool cells_str cells_slice cells_ptr cells_agg fieldAddrV natOf_zero fill repN splice over newV step_appendZ
  wp_dreg wpDs_nil wpDs_cons wantedE_none wantedE_some wpDGuard_true wpDGuard_lim wpDGuard_false wpDLim_true wpDVal_free wpDVal_lim back_limited next_limited limF_dir limF_false foot_load foot_store foot_convStr okAll_nil okAll_cons pastsOf nthP ahead few_next load_limited convStr_limited blt_dec okPair_dd okPair_dc okPair_cd okPair_cc anyIn_nil anyIn_same anyIn_cons meets_nil meets_nil'
  tn_alloc tn_load tn_load0 tn_store tn_store0 storeT_some loadC_some cellsAt_zero cellsAt_succ ownAt_zero ownAt_succ tn_first tn_first0 firstC_some tn_grow_none tn_grow tn_grow0 growN_some tn_fix tn_fix0 fixN_some bn_load bn_first bn_grow bn_store tn_next tn_alloc_dir tl_store_d tl_back tl_back_few few_back_tl backv_some back_back cut takeN nbeq_dec ble_dec meets_cons mem_nil mem_cons idOf load_d convStr_d lenOfS firstNo natOf_int if_leN bn_fix foot_bslice foot_alloc foot_box foot_append foot_call
theorem growEl_tn {α : Type} {f : α → List V} {e w : Nat} (hf : ∀ a, (f a).length = e) (hw : w ≤ 64) {X : List (Option AObj)} {N q n : Nat} [hN : LenIs X N] {L : List α} (a : α) (hn : L.length = n) (hs : n ≤ 1000000) (h : n ≠ 0 → (X[q]?).join = some (.cells true (elV f L))) (l : List (Option AObj)) :
    appendV (tl X l) e w (elS e q n) (some 1) (some (f a)) = some (.slice (some (N + l.length, 0)) e (n + 1) (n + 1) false, tl (Sp.setK n X q) (l ++ [some (.cells true (elV f (L ++ [a])))])) := by
  have := growEl hf hw (os := X ++ l) (q := q) a hn hs fun h0 => by rw [join_app (join_lt (h h0))]; exact h h0
  rw [tl_eq, this, List.length_append, hN.eq, tl_eq]
  congr 2
  unfold Sp.setK
  split
  · rw [List.append_assoc]
  · rename_i h0
    rw [List.set_append_left _ _ (join_lt (h h0)), List.append_assoc]
structure Px where
  r : Nat
  g : Nat
  b : Nat
  a : Nat
def pxV (p : Px) : List V := [.int .i64 (p.r : Int), .int .i64 (p.g : Int), .int .i64 (p.b : Int), .int .i64 (p.a : Int)]
theorem pxV_len (p : Px) : (pxV p).length = 4 := rfl
def Px.ok (p : Px) : Prop := p.r < 256 ∧ p.g < 256 ∧ p.b < 256 ∧ p.a < 256
def colorP (c : Int) : Px := ⟨(pickI c 256).toNat, (pickI (Int.tdiv c 256) 256).toNat, (pickI (Int.tdiv c 7) 256).toNat, if pickI c 3 = 0 then (pickI (Int.tdiv c 3) 256).toNat else 255⟩
theorem colorP_ok {c : Int} : (colorP c).ok := by
  have h1 := pickI_lt (n := c) (m := 256) (by omega)
  have h2 := pickI_lt (n := Int.tdiv c 256) (m := 256) (by omega)
  have h3 := pickI_lt (n := Int.tdiv c 7) (m := 256) (by omega)
  have h4 := pickI_lt (n := Int.tdiv c 3) (m := 256) (by omega)
  refine ⟨?_, ?_, ?_, ?_⟩
  · show (pickI c 256).toNat < 256; omega
  · show (pickI (Int.tdiv c 256) 256).toNat < 256; omega
  · show (pickI (Int.tdiv c 7) 256).toNat < 256; omega
  · show (if pickI c 3 = 0 then (pickI (Int.tdiv c 3) 256).toNat else 255) < 256
    split <;> omega
def I64 (c : Int) : Prop := -9223372036854775808 ≤ c ∧ c < 9223372036854775808
theorem tdiv_i64 {c : Int} (h : I64 c) {k : Int} (hk : 2 ≤ k) : wrapV .i64 (Int.tdiv c k) = Int.tdiv c k := by
  obtain ⟨h1, h2⟩ := h
  obtain ⟨q, hq⟩ : ∃ q, q = Int.tdiv c k := ⟨_, rfl⟩
  have h3 : (Int.tdiv c k).natAbs ≤ 9223372036854775808 / 2 := by
    rw [Int.natAbs_tdiv]
    have a1 : c.natAbs / k.natAbs ≤ c.natAbs / 2 := Nat.div_le_div_left (by omega) (by omega)
    have a2 : c.natAbs / 2 ≤ 9223372036854775808 / 2 := Nat.div_le_div_right (by omega)
    exact Nat.le_trans a1 a2
  rw [← hq] at h3 ⊢
  exact wrap_i (by omega) (by omega)
theorem pick_at {call : CallT} {nP : Nat} (hP : PickF call nP) {n : Int} {m : Nat} (hm : 0 < m) (hm2 : m < 1000000) (st : St) : call nP [.int .i64 n, .int .i64 (m : Int)] st = some (.int .i64 (((pickI n m).toNat : Nat) : Int), st) := by
  have := pickI_lt (n := n) (m := m) (by omega)
  rw [hP _ _ _ (by omega) (by omega), Int.toNat_of_nonneg this.1]
def ColorL (f : FnT) : Prop := ∀ os c, I64 c → f [.int .i64 c] (few os) = some (.agg (pxV (colorP c)), few os)
theorem ColorL.auto {base : CallT} {g lf nP : Nat} (hP : PickF base nP) : ColorL (withL base g (lawOf (autoRd base lf (Color_c nP))) g) := fun os c hc => by
  refine auto_flat rfl rfl rfl fun Y hY => ?_
  refine enter_ex ?_
  have p1 := fun st => pick_at hP (n := c) (m := 3) (by omega) (by omega) st
  have p2 := fun st => pick_at hP (n := c) (m := 256) (by omega) (by omega) st
  have p3 := fun st => pick_at hP (n := Int.tdiv c 256) (m := 256) (by omega) (by omega) st
  have p4 := fun st => pick_at hP (n := Int.tdiv c 7) (m := 256) (by omega) (by omega) st
  have p5 := fun st => pick_at hP (n := Int.tdiv c 3) (m := 256) (by omega) (by omega) st
  have q1 := tdiv_i64 hc (k := 256) (by omega)
  have q2 := tdiv_i64 hc (k := 7) (by omega)
  have q3 := tdiv_i64 hc (k := 3) (by omega)
  have h3 := pickI_lt (n := c) (m := 3) (by omega)
  unfold pxV colorP
  obtain ⟨x3, hx3⟩ : ∃ x, x = (pickI c 3).toNat := ⟨_, rfl⟩
  have p1 : ∀ st, base nP [.int .i64 c, .int .i64 3] st = some (.int .i64 (x3 : Int), st) := fun st => by rw [hx3]; exact p1 st
  have p2 : ∀ st, base nP [.int .i64 c, .int .i64 256] st = _ := p2
  have p3 : ∀ st, base nP [.int .i64 (Int.tdiv c 256), .int .i64 256] st = _ := p3
  have p4 : ∀ st, base nP [.int .i64 (Int.tdiv c 7), .int .i64 256] st = _ := p4
  have p5 : ∀ st, base nP [.int .i64 (Int.tdiv c 3), .int .i64 256] st = _ := p5
  rw [tl_of (X := Y)]
  by_cases h0 : x3 = 0
  · have : pickI c 3 = 0 := by omega
    rw [if_pos this]
    subst h0
    simp (disch := omega) [p1, p2, p3, p4, p5, bin_quo, q1, q2, q3, dlt_t, dlt_f, dle_t, dle_f, dltn_t, dltn_f, dlen_t, dlen_f, deq_t, deq_f, deqn_t, deqn_f, resE_cell]
  · have : ¬ pickI c 3 = 0 := by omega
    rw [if_neg this]
    simp (disch := omega) [p1, p2, p3, p4, p5, bin_quo, q1, q2, q3, dlt_t, dlt_f, dle_t, dle_f, dltn_t, dltn_f, dlen_t, dlen_f, deq_t, deq_f, deqn_t, deqn_f, resE_cell]
def cAt (l : List Int) (i k : Nat) : Int := if 7 * i + k < l.length then l.getD (7 * i + k) 0 else ((777 * i + 3333 * k : Nat) : Int)
def rowX (l : List Int) (i m : Nat) : List Px := (List.range m).map fun k => colorP (cAt l i k)
def palX (l : List Int) (n m : Nat) : List (List Px) := (List.range n).map fun i => rowX l i m
theorem rowX_succ {l : List Int} {i m : Nat} : rowX l i (m + 1) = rowX l i m ++ [colorP (cAt l i m)] := by unfold rowX; rw [List.range_succ, List.map_append]; rfl
theorem palX_succ {l : List Int} {n m : Nat} : palX l (n + 1) m = palX l n m ++ [rowX l n m] := by unfold palX; rw [List.range_succ, List.map_append]; rfl
theorem rowX_len {l : List Int} {i m : Nat} : (rowX l i m).length = m := by simp [rowX]
theorem palX_len {l : List Int} {n m : Nat} : (palX l n m).length = n := by simp [palX]
theorem cAt_i64 {l : List Int} (hl : ∀ c ∈ l, -9223372036854775808 ≤ c ∧ c < 9223372036854775808) {i k : Nat} (hi : i < 100) (hk : k < 100) : I64 (cAt l i k) := by
  unfold cAt
  split
  · rename_i h
    rw [List.getD_eq_getElem?_getD, List.getElem?_eq_getElem h]
    exact hl _ (List.getElem_mem h)
  · constructor <;> omega
def oneS (v : V) : List V := [v]
theorem elV_oneS {vs : List V} : elV oneS vs = vs := by
  induction vs with
  | nil => rfl
  | cons v vs ih => show oneS v ++ elV oneS vs = _; rw [ih]; rfl
structure RowsAt (os : List (Option AObj)) (N r : Nat) (X : List (List Px)) : Prop where
  ex : ∃ vs : List V, vs.length = X.length ∧ (X ≠ [] → N ≤ r ∧ (os[r]?).join = some (.cells true (elV oneS vs))) ∧ ∀ (j : Nat) (v : V) (row : List Px), vs[j]? = some v → X[j]? = some row → ∃ q, v = elS 4 q row.length ∧ (row ≠ [] → N ≤ q ∧ (X ≠ [] → q ≠ r) ∧ (os[q]?).join = some (.cells true (elV pxV row)))
theorem RowsAt.start {os : List (Option AObj)} {N r : Nat} : RowsAt os N r [] := ⟨[], rfl, fun h => absurd rfl h, fun j v row h => by simp at h⟩
theorem RowsAt.keep {os os' : List (Option AObj)} {N r : Nat} {X : List (List Px)} (h : RowsAt os N r X) (he : ∀ i, N ≤ i → i < os.length → (os'[i]?).join = (os[i]?).join) : RowsAt os' N r X := by
  obtain ⟨vs, h1, h2, h3⟩ := h.ex
  refine ⟨vs, h1, fun hne => ⟨(h2 hne).1, by rw [he r (h2 hne).1 (join_lt (h2 hne).2)]; exact (h2 hne).2⟩, fun j v row hv hr => ?_⟩
  obtain ⟨q, g1, g2⟩ := h3 j v row hv hr
  refine ⟨q, g1, fun hne => ?_⟩
  obtain ⟨k1, k2, k3⟩ := g2 hne
  exact ⟨k1, k2, by rw [he q k1 (join_lt k3)]; exact k3⟩
def PalF (call : CallT) (g : Nat) : Prop := ∀ os n m v l, ParI os v l → ∃ r os', call g [.int .i64 n, .int .i64 m, v] (few os) = some (elS 1 r (pickI n 5).toNat, few os') ∧ RowsAt os' os.length r (palX l (pickI n 5).toNat (pickI m 7).toNat) ∧ (∀ i, i < os.length → (os'[i]?).join = (os[i]?).join) ∧ os.length ≤ os'.length
set_option maxHeartbeats 4000000 in
theorem PalF.code {base : CallT} {g lf nP nC : Nat} (hlf : 20 ≤ lf) (hP : PickF base nP) (hC : ColorL (base nC)) : PalF (Vabs.withF base g lf (palettes_c nP nC)) g := fun os n m v l hv => by
  rw [withF_same]
  obtain ⟨N, hN⟩ : ∃ N, N = (pickI n 5).toNat := ⟨_, rfl⟩
  obtain ⟨M, hM⟩ : ∃ M, M = (pickI m 7).toNat := ⟨_, rfl⟩
  have hn5 := pickI_lt (n := n) (m := 5) (by omega)
  have hm7 := pickI_lt (n := m) (m := 7) (by omega)
  have p1 : ∀ st, base nP [.int .i64 n, .int .i64 5] st = some (.int .i64 (N : Int), st) := fun st => by rw [hN]; exact pick_at hP (n := n) (m := 5) (by omega) (by omega) st
  have p2 : ∀ st, base nP [.int .i64 m, .int .i64 7] st = some (.int .i64 (M : Int), st) := fun st => by rw [hM]; exact pick_at hP (n := m) (m := 7) (by omega) (by omega) st
  rw [← hN, ← hM]
  obtain ⟨a, r0, hve, har⟩ := hv.ex
  obtain ⟨Z, hZ⟩ : ∃ Z, Z = l.length := ⟨_, rfl⟩
  rw [← hZ] at hve
  have main := enter_wp (call := base) (lf := lf) (n := 53) (args := [.int .i64 n, .int .i64 m, v]) (st := few os) (K := fun u st => ∃ r os', st = few os' ∧ u = elS 1 r N ∧ RowsAt os' os.length r (palX l N M) ∧ (∀ i, i < os.length → (os'[i]?).join = (os[i]?).join) ∧ os.length ≤ os'.length) (c := (palettes_c nP nC).code) (rs := (palettes_c nP nC).results) ?_
  · obtain ⟨u, st', h1, r, os', rfl, rfl, h2⟩ := main
    exact ⟨r, os', h1, h2⟩
  · unfold palettes_c
    dsimp only
    subst hve
    simp
    refine wp_loop (fun k s st => ∃ i X r, i + k = N ∧ st = few X ∧ RowsAt X os.length r (palX l i M) ∧ (∀ j, j < os.length → (X[j]?).join = (os[j]?).join) ∧ os.length ≤ X.length ∧
      s .h = .int .i64 n ∧ s (.o .h) = .int .i64 m ∧ s (.i .h) = .slice a 1 Z Z false ∧ s (.o (.o (.o .h))) = elS 1 r i ∧ s (.i (.o (.o .h))) = .int .i64 (i : Int)) N ?_ (by omega) ?_
    · refine ⟨0, os, 0, by omega, rfl, RowsAt.start, fun _ _ => rfl, Nat.le_refl _, ?_, ?_, ?_, ?_, ?_⟩ <;> simp [elS]
    · rintro k s st ⟨i, X, r, hk, rfl, hR, hX, hXl, s1, s2, s3, s4, s5⟩
      cases k with
      | zero =>
        have hin : i = N := by omega
        subst hin
        have hpl := elS_plain (e := 1) (q := r) (n := i)
        simp (disch := omega) [s1, s2, s3, s4, s5, p1, dlt_t, dlt_f, dle_t, dle_f, dltn_t, dltn_f, dlen_t, dlen_f, deq_t, deq_f, deqn_t, deqn_f, hpl]
        exact ⟨r, X, rfl, rfl, hR, hX, hXl⟩
      | succ k =>
        have hin : i < N := by omega
        simp (disch := omega) [s1, s2, s3, s4, s5, p1, dlt_t, dlt_f, dle_t, dle_f, dltn_t, dltn_f, dlen_t, dlen_f, deq_t, deq_f, deqn_t, deqn_f]
        refine wp_loop (fun k' s st => ∃ j Y q, j + k' = M ∧ st = few Y ∧ (∀ t, t < X.length → (Y[t]?).join = (X[t]?).join) ∧ X.length ≤ Y.length ∧ (j ≠ 0 → X.length ≤ q ∧ (Y[q]?).join = some (.cells true (elV pxV (rowX l i j)))) ∧
          s .h = .int .i64 n ∧ s (.o .h) = .int .i64 m ∧ s (.i .h) = .slice a 1 Z Z false ∧ s (.o (.o (.o .h))) = elS 1 r i ∧ s (.i (.o (.o .h))) = .int .i64 (i : Int) ∧ s (.o (.i (.o .h))) = elS 4 q j ∧ s (.i (.i (.o .h))) = .int .i64 (j : Int)) M ?_ (by omega) ?_
        · refine ⟨0, X, 0, by omega, rfl, fun _ _ => rfl, Nat.le_refl _, fun h => absurd rfl h, ?_, ?_, ?_, ?_, ?_, ?_, ?_⟩ <;> simp [elS, s1, s2, s3, s4, s5]
        · rintro k' s' st ⟨j, Y, q, hk', rfl, hY, hYl, hq, t1, t2, t3, t4, t5, t6, t7⟩
          cases k' with
          | zero =>
            have hjm : j = M := by omega
            obtain ⟨vs, w1, w2, w3⟩ := hR.ex
            rw [palX_len] at w1
            have hne : i ≠ 0 → palX l i M ≠ [] := fun h e => by have := congrArg List.length e; rw [palX_len] at this; exact h this
            have hcl := elS_cells (e := 4) (q := q) (n := j)
            have g1 : ∀ L, appendV (tl Y L) 1 24 (elS 1 r i) (some 1) (some [elS 4 q j]) = some (.slice (some (Y.length + L.length, 0)) 1 (i + 1) (i + 1) false, tl (Sp.setK i Y r) (L ++ [some (.cells true (elV oneS (vs ++ [elS 4 q j])))])) := fun L =>
              growEl_tn (X := Y) (f := oneS) (e := 1) (w := 24) (q := r) (n := i) (L := vs) (fun _ => rfl) (by omega) (elS 4 q j) w1 (by omega) (fun h => by
                have := w2 (hne h)
                rw [hY r (join_lt this.2)]; exact this.2) L
            rw [tl_of (X := Y)]
            simp (disch := omega) [t1, t2, t3, t4, t5, t6, t7, p2, dlt_t, dlt_f, dle_t, dle_f, dltn_t, dltn_f, dlen_t, dlen_f, deq_t, deq_f, deqn_t, deqn_f, hcl, g1, wrap_i]
            refine ⟨k, by omega, i + 1, by omega, _, rfl, Y.length + 1, ⟨vs ++ [elS 4 q j], by rw [List.length_append, w1, palX_len]; rfl, fun _ => ⟨by omega, by rw [tn_at]; rfl⟩, fun b v row hv hr => ?_⟩, fun t ht => ?_, ?_, (if_neg (by omega)).symm, by omega⟩
            · rw [palX_succ] at hr
              by_cases hb : b < i
              · rw [List.getElem?_append_left (by omega)] at hv
                rw [List.getElem?_append_left (by rw [palX_len]; omega)] at hr
                obtain ⟨qq, z1, z2⟩ := w3 b v row hv hr
                refine ⟨qq, z1, fun hrow => ?_⟩
                obtain ⟨z3, z4, z5⟩ := z2 hrow
                have hqq := join_lt z5
                refine ⟨z3, fun _ => by omega, ?_⟩
                rw [join_app (by rw [setK_len]; omega), setK_at (fun h => z4 (hne h)), hY qq hqq]
                exact z5
              · have hbi : b = i := by
                  have := (List.getElem?_eq_some_iff.1 hv).1
                  rw [List.length_append, w1] at this
                  simp at this; omega
                subst hbi
                rw [List.getElem?_append_right (by omega), w1, Nat.sub_self] at hv
                rw [List.getElem?_append_right (by rw [palX_len]; omega), palX_len, Nat.sub_self] at hr
                cases hv
                cases hr
                refine ⟨q, by rw [rowX_len, hjm], fun hrow => ?_⟩
                have hj0 : j ≠ 0 := fun e => hrow (List.length_eq_zero_iff.1 (by rw [rowX_len]; omega))
                obtain ⟨z1, z2⟩ := hq hj0
                have hql := join_lt z2
                refine ⟨by omega, fun _ => by omega, ?_⟩
                rw [join_app (by rw [setK_len]; omega), setK_at (fun h => by have := join_lt (w2 (hne h)).2; omega), z2, hjm]
            · rw [join_app (by rw [setK_len]; omega), setK_at (fun h => by have := (w2 (hne h)).1; omega), hY t (by omega), hX t ht]
            · simp [setK_len]; omega
          | succ k' =>
            have hjm : j < M := by omega
            obtain ⟨c, hc⟩ : ∃ c, c = cAt l i j := ⟨_, rfl⟩
            obtain ⟨P, hPe⟩ : ∃ P, P = colorP c := ⟨_, rfl⟩
            have hc64 : I64 c := by rw [hc]; exact cAt_i64 hv.lt (by omega) (by omega)
            have hcol : ∀ W L, base nC [.int .i64 c] (tl W L) = some (.agg [.int .i64 (P.r : Int), .int .i64 (P.g : Int), .int .i64 (P.b : Int), .int .i64 (P.a : Int)], tl W L) := fun W L => by rw [hPe]; exact hC (W ++ L) c hc64
            have g1 : ∀ L, appendV (tl Y L) 4 32 (elS 4 q j) (some 1) (some [.int .i64 (P.r : Int), .int .i64 (P.g : Int), .int .i64 (P.b : Int), .int .i64 (P.a : Int)]) = some (.slice (some (Y.length + L.length, 0)) 4 (j + 1) (j + 1) false, tl (Sp.setK j Y q) (L ++ [some (.cells true (elV pxV (rowX l i j ++ [P])))])) := fun L =>
              growEl_tn (X := Y) (f := pxV) (e := 4) (w := 32) (q := q) (n := j) (L := rowX l i j) pxV_len (by omega) P rowX_len (by omega) (fun h => (hq h).2) L
            have close : ∀ W, W = Sp.setK j Y q ++ [some (.cells true [.int .i64 (P.r : Int), .int .i64 (P.g : Int), .int .i64 (P.b : Int), .int .i64 (P.a : Int)]), some (.cells true (elV pxV (rowX l i j ++ [P])))] →
                (∀ t, t < X.length → (W[t]?).join = (X[t]?).join) ∧ X.length ≤ W.length ∧ (j + 1 ≠ 0 → X.length ≤ Y.length + 1 ∧ (W[Y.length + 1]?).join = some (.cells true (elV pxV (rowX l i (j + 1))))) := fun W hW => by
              subst hW
              refine ⟨fun t ht => ?_, by simp [setK_len]; omega, fun _ => ⟨by omega, ?_⟩⟩
              · rw [join_app (by rw [setK_len]; omega), setK_at (fun h => by have := (hq h).1; omega), hY t ht]
              · rw [tn_at, rowX_succ, ← hc, ← hPe]; rfl
            by_cases hz : 7 * i + j < Z
            · have hl0 : l ≠ [] := fun e => by rw [e] at hZ; simp at hZ; omega
              obtain ⟨rfl, own, hrow⟩ := har hl0
              have hrl := join_lt hrow
              haveI : At Y r0 (.cells own (l.map fun n => V.int .i64 n)) := ⟨by rw [hY r0 (by omega), hX r0 hrl]; exact hrow⟩
              have hto : (7 * (i : Int) + (j : Int)).toNat = 7 * i + j := by omega
              have hnth : nth (7 * i + j) (l.map fun n => V.int .i64 n) = some (.int .i64 c) := by
                rw [nth_eq, List.getElem?_map, List.getElem?_eq_getElem (by omega), hc]
                unfold cAt
                rw [if_pos (by omega), List.getD_eq_getElem?_getD, List.getElem?_eq_getElem (by omega)]; rfl
              rw [tl_of (X := Y)]
              simp (disch := omega) [t1, t2, t3, t4, t5, t6, t7, p2, dlt_t, dlt_f, dle_t, dle_f, dltn_t, dltn_f, dlen_t, dlen_f, deq_t, deq_f, deqn_t, deqn_f, wrap_i, idxAddr_slice, hto, hnth, hcol, g1]
              obtain ⟨z1, z2, z3⟩ := close _ rfl
              exact ⟨k', by omega, j + 1, by omega, _, rfl, z1, z2, Y.length + 1, z3, (if_neg (by omega)).symm, by omega⟩
            · have hce : c = (i : Int) * 777 + (j : Int) * 3333 := by
                rw [hc]; unfold cAt; rw [if_neg (by omega)]; omega
              rw [hce] at hcol
              rw [tl_of (X := Y)]
              simp (disch := omega) [t1, t2, t3, t4, t5, t6, t7, p2, dlt_t, dlt_f, dle_t, dle_f, dltn_t, dltn_f, dlen_t, dlen_f, deq_t, deq_f, deqn_t, deqn_f, wrap_i, hcol, g1]
              obtain ⟨z1, z2, z3⟩ := close _ rfl
              exact ⟨k', by omega, j + 1, by omega, _, rfl, z1, z2, Y.length + 1, z3, (if_neg (by omega)).symm, by omega⟩
end Go.Vabs.Da

namespace Go.Vabs.Db
set_option linter.unusedVariables false
set_option linter.unusedSimpArgs false
set_option maxRecDepth 10000
def u16_c : AFunc := AFunc.mk 9 (.seq (.reg [AOper.mk (some (.i .h)) (.mv (.c (.slice none 0 0 0 true))) none]) (.seq (.reg [AOper.mk (some (.i (.o .h))) (.bin .shr (.val .int) (.t .h) (.c (.int .u64 (.ofNat 8)))) none, AOper.mk (some (.o (.i .h))) (.conv (.int .u8) (.t (.i (.o .h)))) none, AOper.mk (some (.o (.o (.o .h)))) (.conv (.int .u8) (.t .h)) none, AOper.mk (some (.i (.o (.o .h)))) (.bslice 1 2 [.int .u8 (.ofNat 0)] [(0, (1, .t (.o (.i .h)))), (1, (1, .t (.o (.o (.o .h)))))]) none, AOper.mk (some (.i .h)) (.mv (.t (.i (.o (.o .h))))) none]) .ret)) [.tmp (.i .h)]
def Right_c : AFunc := AFunc.mk 25 (.seq (.reg [AOper.mk (some (.o .h)) (.box (.t .h)) none, AOper.mk (some (.i .h)) (.mv (.c (.bool false))) none]) (.seq (.reg [AOper.mk (some (.o (.o .h))) (.fieldAddr 0 (.t (.o .h))) none, AOper.mk (some (.i (.o .h))) (.load false 1 (.t (.o (.o .h)))) none, AOper.mk (some (.o (.i .h))) (.fieldAddr 1 (.t (.o .h))) none, AOper.mk (some (.i (.i .h))) (.load false 1 (.t (.o (.i .h)))) none, AOper.mk (some (.o (.o (.o .h)))) (.fieldAddr 2 (.t (.o .h))) none, AOper.mk (some (.i (.o (.o .h)))) (.load false 1 (.t (.o (.o (.o .h))))) none, AOper.mk (some (.o (.i (.o .h)))) (.fieldAddr 3 (.t (.o .h))) none, AOper.mk (some (.i (.i (.o .h)))) (.load false 1 (.t (.o (.i (.o .h))))) none, AOper.mk (some (.o (.o (.i .h)))) (.minmax false (.t (.i (.o .h))) [.t (.i (.i .h)), .t (.i (.o (.o .h))), .t (.i (.i (.o .h)))]) none, AOper.mk (some (.i (.o (.i .h)))) (.bin .geq (.val .int) (.t (.o (.o (.i .h)))) (.c (.int .i64 (.ofNat 0)))) none, AOper.mk (some (.o (.i (.i .h)))) (.mv (.t (.i (.o (.i .h))))) none, AOper.mk (some (.i (.i (.i .h)))) (.fieldAddr 0 (.t (.o .h))) (some (.o (.i (.i .h)), true)), AOper.mk (some (.o (.o (.o (.o .h))))) (.load false 1 (.t (.i (.i (.i .h))))) (some (.o (.i (.i .h)), true)), AOper.mk (some (.i (.o (.o (.o .h))))) (.fieldAddr 1 (.t (.o .h))) (some (.o (.i (.i .h)), true)), AOper.mk (some (.o (.i (.o (.o .h))))) (.load false 1 (.t (.i (.o (.o (.o .h)))))) (some (.o (.i (.i .h)), true)), AOper.mk (some (.i (.i (.o (.o .h))))) (.fieldAddr 2 (.t (.o .h))) (some (.o (.i (.i .h)), true)), AOper.mk (some (.o (.o (.i (.o .h))))) (.load false 1 (.t (.i (.i (.o (.o .h)))))) (some (.o (.i (.i .h)), true)), AOper.mk (some (.i (.o (.i (.o .h))))) (.fieldAddr 3 (.t (.o .h))) (some (.o (.i (.i .h)), true)), AOper.mk (some (.o (.i (.i (.o .h))))) (.load false 1 (.t (.i (.o (.i (.o .h)))))) (some (.o (.i (.i .h)), true)), AOper.mk (some (.i (.i (.i (.o .h))))) (.minmax true (.t (.o (.o (.o (.o .h))))) [.t (.o (.i (.o (.o .h)))), .t (.o (.o (.i (.o .h)))), .t (.o (.i (.i (.o .h))))]) (some (.o (.i (.i .h)), true)), AOper.mk (some (.o (.o (.o (.i .h))))) (.bin .leq (.val .int) (.t (.i (.i (.i (.o .h))))) (.c (.int .i64 (.ofNat 255)))) (some (.o (.i (.i .h)), true)), AOper.mk (some (.i (.o (.o (.i .h))))) (.pick (.t (.o (.i (.i .h)))) (.t (.o (.o (.o (.i .h))))) (.c (.bool false))) none, AOper.mk (some (.i .h)) (.mv (.t (.i (.o (.o (.i .h)))))) none]) .ret)) [.tmp (.i .h)]
def notRight_c (n_Right : Nat) : AFunc := AFunc.mk 6 (.seq (.reg [AOper.mk (some (.o .h)) (.box (.t .h)) none, AOper.mk (some (.i .h)) (.mv (.c (.bool false))) none]) (.seq (.reg [AOper.mk (some (.o (.o .h))) (.load true 4 (.t (.o .h))) none, AOper.mk (some (.i (.o .h))) (.call n_Right [.t (.o (.o .h))]) none, AOper.mk (some (.o (.i .h))) (.un .not (.t (.i (.o .h)))) none, AOper.mk (some (.i .h)) (.mv (.t (.o (.i .h)))) none]) .ret)) [.tmp (.i .h)]
def IdxPx_c : AFunc := AFunc.mk 19 (.seq (.reg [AOper.mk (some (.i (.o .h))) (.mv (.c (.int .i64 (.ofNat 0)))) none]) (.seq (.seq (.reg [AOper.mk (some (.o (.o (.o .h)))) (.len .slice (.t .h)) none, AOper.mk (some (.i (.o (.o .h)))) (.mv (.c (.int .i64 (.ofNat 0)))) none]) (.block 0 (.loop (.seq (.reg [AOper.mk (some (.o (.i (.o .h)))) (.bin .lss (.val .int) (.t (.i (.o (.o .h)))) (.t (.o (.o (.o .h))))) none]) (.seq (.cond (.t (.o (.i (.o .h)))) .skip (.exit 0)) (.seq (.block 1 (.seq (.reg [AOper.mk (some (.o (.i .h))) (.mv (.t (.i (.o (.o .h))))) none]) (.seq (.reg [AOper.mk (some (.i (.i (.i .h)))) (.idxAddr (.slice 4) (.t .h) (.t (.o (.i .h)))) none, AOper.mk (some (.o (.o (.o (.o .h))))) (.load true 4 (.t (.i (.i (.i .h))))) none, AOper.mk (some (.i (.o (.o (.o .h))))) (.callv (.t (.o .h)) [.t (.o (.o (.o (.o .h))))]) none]) (.cond (.t (.i (.o (.o (.o .h))))) (.seq (.reg [AOper.mk (some (.i (.o .h))) (.mv (.t (.o (.i .h)))) none]) .ret) .skip)))) (.reg [AOper.mk (some (.i (.i (.o (.o .h))))) (.bin .add (.val .int) (.t (.i (.o (.o .h)))) (.c (.int .i64 (.ofNat 1)))) none, AOper.mk (some (.i (.o (.o .h)))) (.mv (.t (.i (.i (.o (.o .h)))))) none]))))))) (.seq (.reg [AOper.mk (some (.i (.o .h))) (.mv (.c (.int .i64 (.negSucc 0)))) none]) .ret))) [.tmp (.i (.o .h))]
def ContPx_c (n_IdxPx : Nat) : AFunc := AFunc.mk 9 (.seq (.reg [AOper.mk (some (.i (.o .h))) (.mv (.c (.bool false))) none]) (.seq (.reg [AOper.mk (some (.o (.o (.o .h)))) (.call n_IdxPx [.t .h, .t (.o .h)]) none, AOper.mk (some (.i (.o (.o .h)))) (.bin .geq (.val .int) (.t (.o (.o (.o .h)))) (.c (.int .i64 (.ofNat 0)))) none, AOper.mk (some (.i (.o .h))) (.mv (.t (.i (.o (.o .h))))) none]) .ret)) [.tmp (.i (.o .h))]
def LayEnd (n_u16 : Nat) (n_Concat : Nat) : ACode := (.seq (.reg [AOper.mk (some (.o (.i (.o (.i (.o (.o .h))))))) (.len .slice (.t (.o (.i .h)))) none, AOper.mk (some (.i (.i (.o (.i (.o (.o .h))))))) (.bin .add (.val .int) (.c (.int .i64 (.ofNat 12))) (.t (.o (.i (.o (.i (.o (.o .h)))))))) none, AOper.mk (some (.i (.o (.i .h)))) (.mv (.t (.i (.i (.o (.i (.o (.o .h)))))))) none]) (.seq (.reg [AOper.mk (some (.o (.o (.i (.i (.o (.o .h))))))) (.call n_u16 [.c (.int .i64 (.ofNat 0))]) none, AOper.mk (some (.o (.i (.i (.i (.o (.o .h))))))) (.call n_u16 [.t (.i (.o .h))]) none, AOper.mk (some (.o (.o (.o (.o (.i (.o .h))))))) (.len .slice (.t .h)) none, AOper.mk (some (.i (.o (.o (.o (.i (.o .h))))))) (.call n_u16 [.t (.o (.o (.o (.o (.i (.o .h))))))]) none, AOper.mk (some (.i (.i (.o (.o (.i (.o .h))))))) (.len .slice (.t .h)) none, AOper.mk (some (.i (.o (.i (.o (.i (.o .h))))))) (.bin .mul (.val .int) (.t (.i (.i (.o (.o (.i (.o .h))))))) (.t (.i (.o .h)))) none, AOper.mk (some (.o (.i (.i (.o (.i (.o .h))))))) (.call n_u16 [.t (.i (.o (.i (.o (.i (.o .h))))))]) none, AOper.mk (some (.i (.i (.i (.o (.i (.o .h))))))) (.call n_u16 [.c (.int .i64 (.ofNat 0))]) none, AOper.mk (some (.i (.o (.o (.i (.i (.o .h))))))) (.call n_u16 [.t (.i (.o (.i .h)))]) none, AOper.mk (some (.o (.o (.i (.i (.i (.o .h))))))) (.bslice 1 8 [.slice none 0 0 0 true] [(0, (1, .t (.o (.o (.i (.i (.o (.o .h)))))))), (1, (1, .t (.o (.i (.i (.i (.o (.o .h)))))))), (2, (1, .t (.i (.o (.o (.o (.i (.o .h)))))))), (3, (1, .t (.o (.i (.i (.o (.i (.o .h)))))))), (4, (1, .t (.i (.i (.i (.o (.i (.o .h)))))))), (5, (1, .t (.i (.o (.o (.i (.i (.o .h)))))))), (6, (1, .t (.o (.i .h)))), (7, (1, .t (.i (.i .h))))]) none, AOper.mk (some (.i (.o (.i (.i (.i (.o .h))))))) (.call n_Concat [.t (.o (.o (.i (.i (.i (.o .h))))))]) none, AOper.mk (some (.i .h)) (.mv (.t (.i (.o (.i (.i (.i (.o .h)))))))) none, AOper.mk (some (.o (.o .h))) (.mv (.c (.int .i64 (.ofNat 0)))) none]) .ret))
def LayRest (n_ContPx : Nat) (n_u16 : Nat) (n_Concat : Nat) (n_notRight : Nat) : ACode := (.seq (.reg [AOper.mk (some (.o (.i .h))) (.mv (.c (.slice none 0 0 0 true))) none, AOper.mk (some (.i (.i .h))) (.mv (.c (.slice none 0 0 0 true))) none]) (.seq (.seq (.reg [AOper.mk (some (.o (.o (.o (.i .h))))) (.mv (.t .h)) none, AOper.mk (some (.i (.o (.o (.i .h))))) (.len .slice (.t (.o (.o (.o (.i .h)))))) none, AOper.mk (some (.o (.i (.o (.i .h))))) (.mv (.c (.int .i64 (.ofNat 0)))) none]) (.block 0 (.loop (.seq (.reg [AOper.mk (some (.i (.i (.o (.i .h))))) (.bin .lss (.val .int) (.t (.o (.i (.o (.i .h))))) (.t (.i (.o (.o (.i .h)))))) none]) (.seq (.cond (.t (.i (.i (.o (.i .h))))) .skip (.exit 0)) (.seq (.block 1 (.seq (.reg [AOper.mk (some (.i (.o (.i (.i .h))))) (.idxAddr (.slice 1) (.t (.o (.o (.o (.i .h))))) (.t (.o (.i (.o (.i .h)))))) none, AOper.mk (some (.o (.i (.i (.i .h))))) (.load false 1 (.t (.i (.o (.i (.i .h)))))) none, AOper.mk (some (.o (.o (.o .h)))) (.mv (.t (.o (.i (.o (.i .h)))))) none, AOper.mk (some (.i (.o (.o .h)))) (.mv (.t (.o (.i (.i (.i .h)))))) none]) (.seq (.reg [AOper.mk (some (.o (.o (.o (.o (.o .h)))))) (.call n_ContPx [.t (.i (.o (.o .h))), .c (.func n_notRight [] [])]) none, AOper.mk (some (.o (.i (.o .h)))) (.mv (.t (.o (.o (.o (.o (.o .h))))))) none]) (.seq (.seq (.reg [AOper.mk (some (.o (.i (.o (.o (.o .h)))))) (.len .slice (.t (.i (.o (.o .h))))) none, AOper.mk (some (.o (.o (.i (.o (.o .h)))))) (.bin .neq (.val .int) (.t (.o (.i (.o (.o (.o .h)))))) (.t (.i (.o .h)))) none, AOper.mk (some (.i (.o (.i (.o (.o .h)))))) (.mv (.t (.o (.o (.i (.o (.o .h))))))) none, AOper.mk (some (.i (.i (.i (.o (.o .h)))))) (.bin .gtr (.val .int) (.t (.i (.o .h))) (.c (.int .i64 (.ofNat 256)))) (some (.i (.o (.i (.o (.o .h)))), false)), AOper.mk (some (.o (.o (.o (.i (.o .h)))))) (.pick (.t (.i (.o (.i (.o (.o .h)))))) (.c (.bool true)) (.t (.i (.i (.i (.o (.o .h))))))) none, AOper.mk (some (.i (.o (.o (.i (.o .h)))))) (.mv (.t (.o (.o (.o (.i (.o .h))))))) none, AOper.mk (some (.o (.i (.o (.i (.o .h)))))) (.mv (.t (.o (.i (.o .h))))) (some (.i (.o (.o (.i (.o .h)))), false)), AOper.mk (some (.i (.i (.o (.i (.o .h)))))) (.pick (.t (.i (.o (.o (.i (.o .h)))))) (.c (.bool true)) (.t (.o (.i (.o (.i (.o .h))))))) none]) (.cond (.t (.i (.i (.o (.i (.o .h)))))) (.seq (.reg [AOper.mk (some (.i .h)) (.mv (.c (.slice none 0 0 0 true))) none, AOper.mk (some (.o (.o .h))) (.mv (.c (.int .i64 (.ofNat 1)))) none]) .ret) .skip)) (.seq (.reg [AOper.mk (some (.i (.i (.i (.i (.o .h)))))) (.bin .mul (.val .int) (.t (.o (.o (.o .h)))) (.t (.i (.o .h)))) none, AOper.mk (some (.o (.o (.o (.o (.i .h)))))) (.call n_u16 [.t (.i (.i (.i (.i (.o .h)))))]) none, AOper.mk (some (.i (.o (.o (.o (.i .h)))))) (.append 1 1 (.t (.o (.i .h))) (.t (.o (.o (.o (.o (.i .h))))))) none, AOper.mk (some (.o (.i .h))) (.mv (.t (.i (.o (.o (.o (.i .h))))))) none]) (.seq (.reg [AOper.mk (some (.o (.i (.o (.o (.i .h)))))) (.mv (.t (.i (.o (.o .h))))) none, AOper.mk (some (.i (.i (.o (.o (.i .h)))))) (.len .slice (.t (.o (.i (.o (.o (.i .h))))))) none, AOper.mk (some (.o (.o (.i (.o (.i .h)))))) (.mv (.c (.int .i64 (.ofNat 0)))) none]) (.block 2 (.loop (.seq (.reg [AOper.mk (some (.i (.o (.i (.o (.i .h)))))) (.bin .lss (.val .int) (.t (.o (.o (.i (.o (.i .h)))))) (.t (.i (.i (.o (.o (.i .h))))))) none]) (.seq (.cond (.t (.i (.o (.i (.o (.i .h)))))) .skip (.exit 2)) (.seq (.block 3 (.seq (.reg [AOper.mk (some (.o (.i (.i (.o (.i .h)))))) (.idxAddr (.slice 4) (.t (.o (.i (.o (.o (.i .h)))))) (.t (.o (.o (.i (.o (.i .h))))))) none, AOper.mk (some (.i (.i (.i (.o (.i .h)))))) (.load true 4 (.t (.o (.i (.i (.o (.i .h))))))) none, AOper.mk (some (.o (.o (.i .h)))) (.alloc [.int .i64 (.ofNat 0), .int .i64 (.ofNat 0), .int .i64 (.ofNat 0), .int .i64 (.ofNat 0)]) none, AOper.mk none (.store 4 (.t (.o (.o (.i .h)))) (.t (.i (.i (.i (.o (.i .h))))))) none]) (.reg [AOper.mk (some (.i (.o (.o (.i (.i .h)))))) (.fieldAddr 2 (.t (.o (.o (.i .h))))) none, AOper.mk (some (.o (.i (.o (.i (.i .h)))))) (.load false 1 (.t (.i (.o (.o (.i (.i .h))))))) none, AOper.mk (some (.i (.i (.o (.i (.i .h)))))) (.conv (.int .u8) (.t (.o (.i (.o (.i (.i .h))))))) none, AOper.mk (some (.o (.o (.i (.i (.i .h)))))) (.fieldAddr 1 (.t (.o (.o (.i .h))))) none, AOper.mk (some (.i (.o (.i (.i (.i .h)))))) (.load false 1 (.t (.o (.o (.i (.i (.i .h))))))) none, AOper.mk (some (.o (.i (.i (.i (.i .h)))))) (.conv (.int .u8) (.t (.i (.o (.i (.i (.i .h))))))) none, AOper.mk (some (.i (.i (.i (.i (.i .h)))))) (.fieldAddr 0 (.t (.o (.o (.i .h))))) none, AOper.mk (some (.o (.o (.o (.o (.o (.o .h))))))) (.load false 1 (.t (.i (.i (.i (.i (.i .h))))))) none, AOper.mk (some (.i (.o (.o (.o (.o (.o .h))))))) (.conv (.int .u8) (.t (.o (.o (.o (.o (.o (.o .h)))))))) none, AOper.mk (some (.o (.i (.o (.o (.o (.o .h))))))) (.fieldAddr 3 (.t (.o (.o (.i .h))))) none, AOper.mk (some (.i (.i (.o (.o (.o (.o .h))))))) (.load false 1 (.t (.o (.i (.o (.o (.o (.o .h)))))))) none, AOper.mk (some (.o (.o (.i (.o (.o (.o .h))))))) (.conv (.int .u8) (.t (.i (.i (.o (.o (.o (.o .h)))))))) none, AOper.mk (some (.i (.o (.i (.o (.o (.o .h))))))) (.bslice 1 4 [.int .u8 (.ofNat 0)] [(0, (1, .t (.i (.i (.o (.i (.i .h))))))), (1, (1, .t (.o (.i (.i (.i (.i .h))))))), (2, (1, .t (.i (.o (.o (.o (.o (.o .h)))))))), (3, (1, .t (.o (.o (.i (.o (.o (.o .h))))))))]) none, AOper.mk (some (.o (.i (.i (.o (.o (.o .h))))))) (.append 1 1 (.t (.i (.i .h))) (.t (.i (.o (.i (.o (.o (.o .h)))))))) none, AOper.mk (some (.i (.i .h))) (.mv (.t (.o (.i (.i (.o (.o (.o .h)))))))) none]))) (.reg [AOper.mk (some (.i (.i (.i (.o (.o (.o .h))))))) (.bin .add (.val .int) (.t (.o (.o (.i (.o (.i .h)))))) (.c (.int .i64 (.ofNat 1)))) none, AOper.mk (some (.o (.o (.i (.o (.i .h)))))) (.mv (.t (.i (.i (.i (.o (.o (.o .h)))))))) none])))))))))))) (.reg [AOper.mk (some (.o (.o (.o (.i (.o (.o .h))))))) (.bin .add (.val .int) (.t (.o (.i (.o (.i .h))))) (.c (.int .i64 (.ofNat 1)))) none, AOper.mk (some (.o (.i (.o (.i .h))))) (.mv (.t (.o (.o (.o (.i (.o (.o .h)))))))) none]))))))) (LayEnd n_u16 n_Concat)))
def LayP_c (n_ContPx : Nat) (n_u16 : Nat) (n_Concat : Nat) (n_notRight : Nat) : AFunc := AFunc.mk 93 (.seq (.reg [AOper.mk (some (.i .h)) (.mv (.c (.slice none 0 0 0 true))) none, AOper.mk (some (.o (.o .h))) (.mv (.c (.int .i64 (.ofNat 0)))) none]) (.seq (.seq (.reg [AOper.mk (some (.i (.i (.i .h)))) (.len .slice (.t .h)) none, AOper.mk (some (.o (.o (.o (.o .h))))) (.bin .gtr (.val .int) (.t (.i (.i (.i .h)))) (.c (.int .i64 (.ofNat 64)))) none]) (.cond (.t (.o (.o (.o (.o .h))))) (.seq (.reg [AOper.mk (some (.i .h)) (.mv (.c (.slice none 0 0 0 true))) none, AOper.mk (some (.o (.o .h))) (.mv (.c (.int .i64 (.ofNat 1)))) none]) .ret) .skip)) (.seq (.reg [AOper.mk (some (.i (.o .h))) (.mv (.c (.int .i64 (.ofNat 0)))) none]) (.seq (.seq (.reg [AOper.mk (some (.o (.i (.o (.o .h))))) (.len .slice (.t .h)) none, AOper.mk (some (.i (.i (.o (.o .h))))) (.bin .gtr (.val .int) (.t (.o (.i (.o (.o .h))))) (.c (.int .i64 (.ofNat 0)))) none]) (.cond (.t (.i (.i (.o (.o .h))))) (.reg [AOper.mk (some (.i (.o (.i (.o .h))))) (.idxAddr (.slice 1) (.t .h) (.c (.int .i64 (.ofNat 0)))) none, AOper.mk (some (.o (.i (.i (.o .h))))) (.load false 1 (.t (.i (.o (.i (.o .h)))))) none, AOper.mk (some (.i (.i (.i (.o .h))))) (.len .slice (.t (.o (.i (.i (.o .h)))))) none, AOper.mk (some (.i (.o .h))) (.mv (.t (.i (.i (.i (.o .h)))))) none]) .skip)) (LayRest n_ContPx n_u16 n_Concat n_notRight))))) [.tmp (.i .h), .tmp (.o (.o .h))]
attribute [local simp] wp_skip wp_ret wp_exit wp_reg wp_seq wp_cond wp_block thenQ_normal thenQ_ret thenQ_exit blockQ_normal blockQ_ret blockQ_exit wpCond_true wpCond_false wpOps_nil wpVal_some wpGuard_true wpGuard_false wpOps_guard wpOps_cons
  put_at put_no ev_c ev_slot posEq_h posEq_o posEq_i posEq_ho posEq_hi posEq_oh posEq_ih posEq_oi posEq_io sel_true sel_false
  okv_some step_mv step_call step_pick pickV_bool step_bin bin_add bin_sub bin_mul bin_eql bin_neq bin_lss bin_leq bin_gtr bin_geq bin_eqb bin_neb bin_eqs bin_nes step_un un_not un_neg step_len len_slice len_str len_const step_extract extractV nth step_convInt conv_int step_convStr step_slice step_idxAddr natOf_nat step_load step_index step_field step_fieldAddr step_build step_minmax
  step_alloc step_bslice bsliceV_some newV_some step_store step_append boolIs_b boolIs_t finQ_ret finQ_normal ressE_nil ressE_cons resE_tmp consO_some initE_nil initE_cons pos_0 pos_1 pos_2 pos_3 pos_4 pos_5 pos_6 pos_7 pos_8 plain_bool plain_int plain_str plain_ptr plain_slice plain_map plain_agg plain_func plain_nilFunc V.undef oneOf_one oneOf_two ble_self
open Go.Vabs.Pk Go.Vabs.Ph Go.Vabs.Sa Go.Vabs.Sb Go.Vabs.Sc Go.Vabs.Sd Go.Vabs.Se Go.Vabs.Sg Go.Vabs.Sh Go.Vabs.Sm Go.Vabs.Sn Go.Vabs.Sp Go.Vabs.Sr Go.Vabs.St Go.Vabs.Su Go.Vabs.L2 Go.Vabs.Na Go.Vabs.Nb Go.Vabs.Ra Go.Vabs.Rb Go.Vabs.Rc Go.Vabs.Rd Go.Vabs.Re Go.Vabs.Ca Go.Vabs.Cb Go.Vabs.Vc Go.Vabs.Da Go.Vabs.Sh
attribute [local simp] step_nilchk nilchk_ptr step_box cells_int cells_bool cells_str cells_slice cells_ptr cells_agg fieldAddrV natOf_zero fill repN splice over newV step_appendZ
  wp_dreg wpDs_nil wpDs_cons wantedE_none wantedE_some wpDGuard_true wpDGuard_lim wpDGuard_false wpDLim_true wpDVal_free wpDVal_lim back_limited next_limited limF_dir limF_false foot_load foot_store foot_convStr okAll_nil okAll_cons pastsOf nthP ahead few_next load_limited convStr_limited blt_dec okPair_dd okPair_dc okPair_cd okPair_cc anyIn_nil anyIn_same anyIn_cons meets_nil meets_nil'
  tn_alloc tn_load tn_load0 tn_store tn_store0 storeT_some loadC_some cellsAt_zero cellsAt_succ ownAt_zero ownAt_succ tn_first tn_first0 firstC_some tn_grow_none tn_grow tn_grow0 growN_some tn_fix tn_fix0 fixN_some bn_load bn_first bn_grow bn_store tn_next tn_alloc_dir tl_store_d tl_back tl_back_few few_back_tl backv_some back_back cut takeN nbeq_dec ble_dec meets_cons mem_nil mem_cons idOf load_d convStr_d lenOfS firstNo natOf_int if_leN bn_fix foot_bslice foot_alloc foot_box foot_append foot_call
theorem mm_min {k : IntKind} {x y : Int} {l : List V} : mmAll false (.int k x) (.int k y :: l) = mmAll false (.int k (min x y)) l := by
  show (match (if k = k then some (V.int k (sel false (sel (ltI x y) y x) (sel (ltI y x) y x))) else none) with | some z => mmAll false z l | none => none) = _
  rw [if_pos rfl, ltI_eq, ltI_eq]
  dsimp only [sel_false]
  congr 2
  by_cases h : y < x
  · rw [decide_eq_true h, Int.min_eq_right (by omega)]; rfl
  · rw [decide_eq_false h, Int.min_eq_left (by omega)]; rfl
theorem mm_max {k : IntKind} {x y : Int} {l : List V} : mmAll true (.int k x) (.int k y :: l) = mmAll true (.int k (max x y)) l := by
  show (match (if k = k then some (V.int k (sel true (sel (ltI x y) y x) (sel (ltI y x) y x))) else none) with | some z => mmAll true z l | none => none) = _
  rw [if_pos rfl, ltI_eq, ltI_eq]
  dsimp only [sel_true]
  congr 2
  by_cases h : x < y
  · rw [decide_eq_true h, Int.max_eq_right (by omega)]; rfl
  · rw [decide_eq_false h, Int.max_eq_left (by omega)]; rfl
theorem mm_nil {b : Bool} {x : V} : mmAll b x [] = some x := rfl
def RightL (f : FnT) : Prop := ∀ os (P : Px), P.ok → f [.agg (pxV P)] (few os) = some (.bool true, few os)
theorem RightL.auto {base : CallT} {g lf : Nat} : RightL (withL base g (lawOf (autoRd base lf Right_c)) g) := fun os P hP => by
  obtain ⟨h1, h2, h3, h4⟩ := hP
  refine auto_flat rfl rfl rfl fun Y hY => ?_
  refine enter_ex ?_
  obtain ⟨x, hx⟩ : ∃ x : Nat, (min (min (min (P.r : Int) P.g) P.b) P.a) = (x : Int) := ⟨(min (min (min (P.r : Int) P.g) P.b) P.a).toNat, by omega⟩
  obtain ⟨y, hy, hy2⟩ : ∃ y : Nat, (max (max (max (P.r : Int) P.g) P.b) P.a) = (y : Int) ∧ y < 256 := ⟨(max (max (max (P.r : Int) P.g) P.b) P.a).toNat, by omega, by omega⟩
  have e1 : mmAll false (.int .i64 (P.r : Int)) [.int .i64 (P.g : Int), .int .i64 (P.b : Int), .int .i64 (P.a : Int)] = some (.int .i64 (x : Int)) := by rw [mm_min, mm_min, mm_min, mm_nil, hx]
  have e2 : mmAll true (.int .i64 (P.r : Int)) [.int .i64 (P.g : Int), .int .i64 (P.b : Int), .int .i64 (P.a : Int)] = some (.int .i64 (y : Int)) := by rw [mm_max, mm_max, mm_max, mm_nil, hy]
  unfold pxV
  rw [tl_of (X := Y)]
  simp (disch := omega) [e1, e2, dlt_t, dlt_f, dle_t, dle_f, dltn_t, dltn_f, dlen_t, dlen_f, deq_t, deq_f, deqn_t, deqn_f]
def NotRightL (f : FnT) : Prop := ∀ os (P : Px), P.ok → f [.agg (pxV P)] (few os) = some (.bool false, few os)
theorem NotRightL.auto {base : CallT} {g lf nR : Nat} (hR : RightL (base nR)) : NotRightL (withL base g (lawOf (autoRd base lf (notRight_c nR))) g) := fun os P hP => by
  refine auto_flat rfl rfl rfl fun Y hY => ?_
  refine enter_ex ?_
  have e1 : ∀ l, base nR [.agg [.int .i64 (P.r : Int), .int .i64 (P.g : Int), .int .i64 (P.b : Int), .int .i64 (P.a : Int)]] (tl Y l) = some (.bool true, tl Y l) := fun l => hR (Y ++ l) P hP
  unfold pxV
  rw [tl_of (X := Y)]
  simp (disch := omega) [e1]
inductive RowSee (os : List (Option AObj)) : V → List Px → Prop
  | nil : RowSee os (.slice none 0 0 0 true) []
  | mem {q o c : Nat} {f own : Bool} {cs : List V} {row : List Px} : row.length ≤ c → (os[q]?).join = some (.cells own cs) → goods os.length cs = true → o + row.length * 4 ≤ cs.length → (cs.drop o).take (row.length * 4) = elV pxV row → RowSee os (.slice (some (q, o)) 4 row.length c f) row
theorem RowSee.len {os : List (Option AObj)} {v : V} {row : List Px} (h : RowSee os v row) (st : St) : lenV st .slice v = some (.int .i64 (row.length : Int)) := by cases h <;> rfl
theorem RowSee.plain {os : List (Option AObj)} {v : V} {row : List Px} (h : RowSee os v row) : v.plain = true := by cases h <;> rfl
theorem RowSee.cells {os : List (Option AObj)} {v : V} {row : List Px} (h : RowSee os v row) : v.cells = some [v] := by cases h <;> rfl
theorem RowSee.good {os : List (Option AObj)} {v : V} {row : List Px} (h : RowSee os v row) : v.good os.length = true := by
  cases h with
  | nil => rfl
  | mem h1 h2 => have := join_lt h2; simp [V.good]; exact this
theorem RowSee.cov {os Y : List (Option AObj)} {v : V} {row : List Px} (h : RowSee os v row) (hY : covers (few os) Y) : RowSee Y v row := by
  cases h with
  | nil => exact .nil
  | mem h1 h2 h3 h4 h5 =>
    obtain ⟨o, ho⟩ := cov_cells hY h2 h3
    exact .mem h1 ho (by rw [cov_len hY]; exact h3) h4 h5
theorem RowSee.keep {os os' : List (Option AObj)} {v : V} {row : List Px} (h : RowSee os v row) (he : ∀ i, i < os.length → (os'[i]?).join = (os[i]?).join) (hl : os.length ≤ os'.length) : RowSee os' v row := by
  cases h with
  | nil => exact .nil
  | mem h1 h2 h3 h4 h5 => exact .mem h1 (by rw [he _ (join_lt h2)]; exact h2) (goods_le hl h3) h4 h5
theorem RowSee.grow {os l : List (Option AObj)} {v : V} {row : List Px} (h : RowSee os v row) : RowSee (os ++ l) v row := h.keep (fun i hi => join_app hi) (by simp)
theorem RowSee.ld {os : List (Option AObj)} {v : V} {row : List Px} (h : RowSee os v row) {k : Nat} {P : Px} (hk : row[k]? = some P) : ∃ p, (∀ x, natOf x = some k → idxAddrV (.slice 4) v (natOf x) = some (.ptr (some p))) ∧ ∀ l, loadV (tl os l) true 4 (.ptr (some p)) = some (.agg (pxV P)) := by
  have hkl := (List.getElem?_eq_some_iff.1 hk).1
  cases h with
  | nil => simp at hk
  | @mem q o c f own cs row h1 h2 h3 h4 h5 =>
    refine ⟨(q, o + k * 4), fun x hx => by rw [hx]; exact idxAddr_slice hkl, fun l => ?_⟩
    rw [tl_eq, load_fewC, cellsAt_eq, join_app (join_lt h2), h2]
    show (cut (o + k * 4) 4 cs).map V.agg = _
    rw [cut_of (by omega)]
    have := elV_at (f := pxV) (e := 4) pxV_len hk
    rw [← h5, List.drop_take, List.drop_drop, List.take_take, Nat.min_eq_left (by omega)] at this
    rw [this]; rfl
def ContPxL (nN : Nat) (f : FnT) : Prop := ∀ os v row, RowSee os v row → (∀ P ∈ row, P.ok) → row.length ≤ 1000 → f [v, .func nN [] []] (few os) = some (.bool false, few os)
def IdxPxL (nN : Nat) (f : FnT) : Prop := ∀ os v row, RowSee os v row → (∀ P ∈ row, P.ok) → row.length ≤ 1000 → f [v, .func nN [] []] (few os) = some (.int .i64 (-1), few os)
theorem IdxPxL.auto {base : CallT} {g lf nN : Nat} (hlf : 1010 ≤ lf) (hN : NotRightL (base nN)) : IdxPxL nN (withL base g (lawOf (autoRd base lf IdxPx_c)) g) := fun os v row hv hok hlen => by
  refine auto_flat (by simp [goods, hv.good, V.good]) rfl rfl fun Y hY => ?_
  have hv := hv.cov hY
  refine enter_ex ?_
  obtain ⟨n, hn⟩ : ∃ n, n = row.length := ⟨_, rfl⟩
  have hln := hv.len
  rw [← hn] at hln
  simp (disch := omega) [hln]
  refine wp_loop (fun k s st => ∃ i, i + k = n ∧ st = few Y ∧ s .h = v ∧ s (.o .h) = .func nN [] [] ∧ s (.o (.o (.o .h))) = .int .i64 (n : Int) ∧ s (.i (.o (.o .h))) = .int .i64 (i : Int)) n ?_ (by omega) ?_
  · exact ⟨0, by omega, rfl, by simp, by simp, by simp, by simp⟩
  · rintro k s st ⟨i, hk, rfl, s1, s2, s3, s4⟩
    cases k with
    | zero =>
      simp (disch := omega) [s1, s2, s3, s4, dlt_t, dlt_f, dle_t, dle_f, dltn_t, dltn_f, dlen_t, dlen_f, deq_t, deq_f, deqn_t, deqn_f]
    | succ k =>
      obtain ⟨P, hP⟩ : ∃ P, row[i]? = some P := ⟨_, List.getElem?_eq_getElem (by omega)⟩
      obtain ⟨p, e1, e2⟩ := hv.ld hP
      have e1 : idxAddrV (.slice 4) v (some i) = some (.ptr (some p)) := e1 (.int .i64 (i : Int)) rfl
      have e3 : ∀ l, base nN [.agg (pxV P)] (tl Y l) = some (.bool false, tl Y l) := fun l => hN (Y ++ l) P (hok P (List.mem_of_getElem? hP))
      rw [tl_of (X := Y)]
      simp (disch := omega) [s1, s2, s3, s4, dlt_t, dlt_f, dle_t, dle_f, dltn_t, dltn_f, dlen_t, dlen_f, deq_t, deq_f, deqn_t, deqn_f, e1, e2, e3, step_callvV, wrap_i]
      exact ⟨k, by omega, i + 1, by omega, by omega⟩
theorem ContPxL.auto {base : CallT} {g lf nI nN : Nat} (hI : IdxPxL nN (base nI)) : ContPxL nN (withL base g (lawOf (autoRd base lf (ContPx_c nI))) g) := fun os v row hv hok hlen => by
  refine auto_flat (by simp [goods, hv.good, V.good]) rfl rfl fun Y hY => ?_
  refine enter_ex ?_
  have e1 : ∀ l, base nI [v, .func nN [] []] (tl Y l) = some (.int .i64 (-1), tl Y l) := fun l => hI (Y ++ l) v row (hv.cov hY).grow hok hlen
  rw [tl_of (X := Y)]
  simp (disch := omega) [e1, dlt_t, dlt_f, dle_t, dle_f, dltn_t, dltn_f, dlen_t, dlen_f, deq_t, deq_f, deqn_t, deqn_f]
def U2F (f : FnT) : Prop := ∀ os (n : Nat), f [.int .i64 (n : Int)] (few os) = some (.slice (some (os.length, 0)) 1 2 2 true, few (os ++ [some (.cells true (bytesV (bigB n 2)))]))
theorem U2F.code {base : CallT} {g lf : Nat} : U2F (Vabs.withF base g lf u16_c g) := fun os n => by
  rw [withF_same]
  obtain ⟨m, hm⟩ : ∃ m, m = n / 256 := ⟨_, rfl⟩
  have e1 : ∀ eq, binV .shr eq (.int .i64 (n : Int)) (.int .u64 8) = some (.int .i64 (m : Int)) := fun eq => by rw [hm]; exact shr_n (m := 8) rfl (by omega)
  have e2 : bytesV (bigB n 2) = [.int .u8 ((m % 256 : Nat) : Int), .int .u8 ((n % 256 : Nat) : Int)] := by simp [bigB, bytesV, hm]
  rw [e2]
  refine enter_eq ?_
  rw [← tl_eq, tl_of (X := os)]
  simp (disch := omega) [e1, wrap_u8_mod]
structure XSee (os : List (Option AObj)) (v : V) (X : List (List Px)) : Prop where
  ex : ∃ (r : Nat) (vs : List V) (own : Bool), v = elS 1 r X.length ∧ (X ≠ [] → (os[r]?).join = some (.cells own vs) ∧ goods os.length vs = true) ∧ vs.length = X.length ∧ ∀ (j : Nat) (v : V) (row : List Px), vs[j]? = some v → X[j]? = some row → RowSee os v row
theorem XSee.cov {os Y : List (Option AObj)} {v : V} {X : List (List Px)} (h : XSee os v X) (hY : covers (few os) Y) : XSee Y v X := by
  obtain ⟨r, vs, own, h1, h2, h3, h4⟩ := h.ex
  by_cases h0 : X = []
  · exact ⟨r, vs, own, h1, fun e => absurd h0 e, h3, fun j v row hv hr => (h4 j v row hv hr).cov hY⟩
  · obtain ⟨g1, g2⟩ := h2 h0
    obtain ⟨o, ho⟩ := cov_cells hY g1 g2
    exact ⟨r, vs, o, h1, fun _ => ⟨ho, by rw [cov_len hY]; exact g2⟩, h3, fun j v row hv hr => (h4 j v row hv hr).cov hY⟩
theorem XSee.keep {os os' : List (Option AObj)} {v : V} {X : List (List Px)} (h : XSee os v X) (he : ∀ i, i < os.length → (os'[i]?).join = (os[i]?).join) (hl : os.length ≤ os'.length) : XSee os' v X := by
  obtain ⟨r, vs, own, h1, h2, h3, h4⟩ := h.ex
  refine ⟨r, vs, own, h1, fun e => ⟨by rw [he r (join_lt (h2 e).1)]; exact (h2 e).1, goods_le hl (h2 e).2⟩, h3, fun j v row hv hr => (h4 j v row hv hr).keep he hl⟩
theorem XSee.grow {os l : List (Option AObj)} {v : V} {X : List (List Px)} (h : XSee os v X) : XSee (os ++ l) v X := h.keep (fun i hi => join_app hi) (by simp)
theorem XSee.good {os : List (Option AObj)} {v : V} {X : List (List Px)} (h : XSee os v X) : v.good os.length = true := by
  obtain ⟨r, vs, own, rfl, h2, h3, h4⟩ := h.ex
  by_cases h0 : X = []
  · subst h0; rfl
  · have := join_lt (h2 h0).1
    have hn : X.length ≠ 0 := fun e => h0 (List.length_eq_zero_iff.1 e)
    simp [elS, hn, V.good]; exact this
theorem XSee.len {os : List (Option AObj)} {v : V} {X : List (List Px)} (h : XSee os v X) (st : St) : lenV st .slice v = some (.int .i64 (X.length : Int)) := by
  obtain ⟨r, vs, own, rfl, _⟩ := h.ex
  exact elS_len
theorem XSee.plain {os : List (Option AObj)} {v : V} {X : List (List Px)} (h : XSee os v X) : v.plain = true := by
  obtain ⟨r, vs, own, rfl, _⟩ := h.ex
  exact elS_plain
theorem elS_goods {q n k m : Nat} (h : n ≠ 0 → q < m) : (elS k q n).good m = true := by
  unfold elS
  split
  · rfl
  · rename_i h0; simp [V.good]; exact h h0
theorem elV_flat {α : Type} {f : α → List V} (hf : ∀ a, (f a).all V.flat = true) {L : List α} : (elV f L).all V.flat = true := by
  unfold elV
  rw [List.all_eq_true]
  intro v hv
  obtain ⟨l, h1, h2⟩ := List.mem_flatten.1 hv
  obtain ⟨a, _, rfl⟩ := List.mem_map.1 h1
  exact List.all_eq_true.1 (hf a) v h2
theorem RowsAt.see {os : List (Option AObj)} {N r : Nat} {X : List (List Px)} (h : RowsAt os N r X) : XSee os (elS 1 r X.length) X := by
  obtain ⟨vs, h1, h2, h3⟩ := h.ex
  refine ⟨r, vs, true, rfl, fun hne => ⟨by have := (h2 hne).2; rw [elV_oneS] at this; exact this, goods_mem.2 fun v hv => ?_⟩, h1, fun j v row hv hr => ?_⟩
  · obtain ⟨j, hj⟩ := List.mem_iff_getElem?.1 hv
    have hjl := (List.getElem?_eq_some_iff.1 hj).1
    obtain ⟨row, hr⟩ : ∃ row, X[j]? = some row := ⟨_, List.getElem?_eq_getElem (by omega)⟩
    obtain ⟨q, rfl, g⟩ := h3 j v row hj hr
    exact elS_goods fun h0 => join_lt (g (fun e => h0 (by rw [e]; rfl))).2.2
  · obtain ⟨q, rfl, g⟩ := h3 j v row hv hr
    by_cases h0 : row = []
    · subst h0; exact .nil
    · have hn : row.length ≠ 0 := fun e => h0 (List.length_eq_zero_iff.1 e)
      have hq := (g h0).2.2
      have hl : (elV pxV row).length = row.length * 4 := elV_len pxV_len
      have e : elS 4 q row.length = .slice (some (q, 0)) 4 row.length row.length false := if_neg hn
      rw [e]
      exact .mem (Nat.le_refl _) hq (flats_good (elV_flat fun a => rfl)) (by omega) (by rw [List.drop_zero, List.take_of_length_le (by omega)])
theorem growB_tn {X : List (Option AObj)} {N q n m : Nat} [hN : LenIs X N] {B nb : List Nat} (hn : B.length = n) (hm : nb.length = m + 1) (hs : n + m ≤ 1000000) (h : n ≠ 0 → (X[q]?).join = some (.cells true (bytesV B))) (l : List (Option AObj)) :
    appendV (tl X l) 1 1 (elS 1 q n) (some (m + 1)) (some (bytesV nb)) = some (.slice (some (N + l.length, 0)) 1 (n + (m + 1)) (n + (m + 1)) false, tl (Sp.setK n X q) (l ++ [some (.cells true (bytesV (B ++ nb)))])) := by
  have hb : bytesV (B ++ nb) = bytesV B ++ bytesV nb := by simp [bytesV]
  by_cases h0 : n = 0
  · subst h0
    have : B = [] := List.length_eq_zero_iff.1 hn
    subst this
    show appendV (tl X l) 1 1 (.slice none 0 0 0 true) (some (m + 1)) (some (bytesV nb)) = _
    rw [tn_grow_none, if_pos ⟨by omega, by rw [bytesV_len]; omega⟩, Nat.zero_add]
    rfl
  · haveI : At X q (.cells true (bytesV B)) := ⟨h h0⟩
    have hel : elS 1 q n = .slice (some (q, 0)) 1 n n false := if_neg h0
    rw [hel, bn_grow, if_pos ⟨by omega, by rw [bytesV_len]; omega, by rw [bytesV_len]; omega⟩, hb]
    unfold Sp.setK
    rw [if_neg h0]
theorem XSee.ldK {os : List (Option AObj)} {v : V} {X : List (List Px)} (h : XSee os v X) {k : Nat} {row : List Px} (hk : X[k]? = some row) : ∃ p w, (∀ x, natOf x = some k → idxAddrV (.slice 1) v (natOf x) = some (.ptr (some p))) ∧ RowSee os w row ∧ ∀ W l, (∀ i, i < os.length → (W[i]?).join = (os[i]?).join) → loadV (tl W l) false 1 (.ptr (some p)) = some w := by
  obtain ⟨r, vs, own, rfl, h2, h3, h4⟩ := h.ex
  have hkl := (List.getElem?_eq_some_iff.1 hk).1
  have h0 : X ≠ [] := fun e => by rw [e] at hk; simp at hk
  have hn : X.length ≠ 0 := fun e => h0 (List.length_eq_zero_iff.1 e)
  obtain ⟨w, hw⟩ : ∃ w, vs[k]? = some w := ⟨_, List.getElem?_eq_getElem (by omega)⟩
  have hel : elS 1 r X.length = .slice (some (r, 0)) 1 X.length X.length false := if_neg hn
  rw [hel]
  refine ⟨(r, 0 + k * 1), w, fun x hx => by rw [hx]; exact idxAddr_slice hkl, h4 k w row hw hk, fun W l hW => ?_⟩
  have hr := (h2 h0).1
  have hr2 : (W[r]?).join = some (.cells own vs) := by rw [hW r (join_lt hr)]; exact hr
  rw [tl_eq, load_fewC, cellsAt_eq, join_app (join_lt hr2), hr2]
  show nth (0 + k * 1) vs = _
  rw [nth_eq, Nat.mul_one, Nat.zero_add]; exact hw
end Go.Vabs.Db

namespace Go.Vabs.Dc
set_option linter.unusedVariables false
set_option linter.unusedSimpArgs false
set_option maxRecDepth 10000
attribute [local simp] wp_skip wp_ret wp_exit wp_reg wp_seq wp_cond wp_block thenQ_normal thenQ_ret thenQ_exit blockQ_normal blockQ_ret blockQ_exit wpCond_true wpCond_false wpOps_nil wpVal_some wpGuard_true wpGuard_false wpOps_guard wpOps_cons
  put_at put_no ev_c ev_slot posEq_h posEq_o posEq_i posEq_ho posEq_hi posEq_oh posEq_ih posEq_oi posEq_io sel_true sel_false
  okv_some step_mv step_call step_pick pickV_bool step_bin bin_add bin_sub bin_mul bin_eql bin_neq bin_lss bin_leq bin_gtr bin_geq bin_eqb bin_neb bin_eqs bin_nes step_un un_not un_neg step_len len_slice len_str len_const step_extract extractV nth step_convInt conv_int step_convStr step_slice step_idxAddr natOf_nat step_load step_index step_field step_fieldAddr step_build step_minmax
  step_alloc step_bslice bsliceV_some newV_some step_store step_append boolIs_b boolIs_t finQ_ret finQ_normal ressE_nil ressE_cons resE_tmp consO_some initE_nil initE_cons pos_0 pos_1 pos_2 pos_3 pos_4 pos_5 pos_6 pos_7 pos_8 plain_bool plain_int plain_str plain_ptr plain_slice plain_map plain_agg plain_func plain_nilFunc V.undef oneOf_one oneOf_two ble_self
open Go.Vabs.Pk Go.Vabs.Ph Go.Vabs.Sa Go.Vabs.Sb Go.Vabs.Sc Go.Vabs.Sd Go.Vabs.Se Go.Vabs.Sg Go.Vabs.Sh Go.Vabs.Sm Go.Vabs.Sn Go.Vabs.Sp Go.Vabs.Sr Go.Vabs.St Go.Vabs.Su Go.Vabs.L2 Go.Vabs.Na Go.Vabs.Nb Go.Vabs.Ra Go.Vabs.Rb Go.Vabs.Rc Go.Vabs.Rd Go.Vabs.Re Go.Vabs.Ca Go.Vabs.Cb Go.Vabs.Vc Go.Vabs.Da Go.Vabs.Db Go.Vabs.Sh
attribute [local simp] step_nilchk nilchk_ptr step_box cells_int cells_bool cells_str cells_slice cells_ptr cells_agg fieldAddrV natOf_zero fill repN splice over newV step_appendZ
  wp_dreg wpDs_nil wpDs_cons wantedE_none wantedE_some wpDGuard_true wpDGuard_lim wpDGuard_false wpDLim_true wpDVal_free wpDVal_lim back_limited next_limited limF_dir limF_false foot_load foot_store foot_convStr okAll_nil okAll_cons pastsOf nthP ahead few_next load_limited convStr_limited blt_dec okPair_dd okPair_dc okPair_cd okPair_cc anyIn_nil anyIn_same anyIn_cons meets_nil meets_nil'
  tn_alloc tn_load tn_load0 tn_store tn_store0 storeT_some loadC_some cellsAt_zero cellsAt_succ ownAt_zero ownAt_succ tn_first tn_first0 firstC_some tn_grow_none tn_grow tn_grow0 growN_some tn_fix tn_fix0 fixN_some bn_load bn_first bn_grow bn_store tn_next tn_alloc_dir tl_store_d tl_back tl_back_few few_back_tl backv_some back_back cut takeN nbeq_dec ble_dec meets_cons mem_nil mem_cons idOf load_d convStr_d lenOfS firstNo natOf_int if_leN bn_fix foot_bslice foot_alloc foot_box foot_append foot_call
def pxB (P : Px) : List Nat := [P.b, P.g, P.r, P.a]
def rowB (row : List Px) : List Nat := (row.map pxB).flatten
def colB (X : List (List Px)) : List Nat := (X.map rowB).flatten
def idxB (each i : Nat) : List Nat := ((List.range i).map fun k => bigB (k * each) 2).flatten
theorem rowB_len {row : List Px} : (rowB row).length = 4 * row.length := by
  induction row with
  | nil => rfl
  | cons P row ih => show (pxB P ++ rowB row).length = _; rw [List.length_append, ih, List.length_cons]; show 4 + _ = _; omega
theorem rowB_succ {row : List Px} {j : Nat} {P : Px} (h : row[j]? = some P) : rowB (row.take (j + 1)) = rowB (row.take j) ++ pxB P := by unfold rowB; rw [List.take_add_one, h]; simp
theorem colB_succ {X : List (List Px)} {i : Nat} {row : List Px} (h : X[i]? = some row) : colB (X.take (i + 1)) = colB (X.take i) ++ rowB row := by unfold colB; rw [List.take_add_one, h]; simp
theorem idxB_succ {each i : Nat} : idxB each (i + 1) = idxB each i ++ bigB (i * each) 2 := by unfold idxB; rw [List.range_succ]; simp
theorem idxB_len {each : Nat} : ∀ i, (idxB each i).length = 2 * i
  | 0 => rfl
  | i + 1 => by rw [idxB_succ, List.length_append, idxB_len i, bigB_len]; omega
def eachX (X : List (List Px)) : Nat := (X.head?.map List.length).getD 0
def layP (X : List (List Px)) : List Nat := bigB 0 2 ++ (bigB (eachX X) 2 ++ (bigB X.length 2 ++ (bigB (X.length * eachX X) 2 ++ (bigB 0 2 ++ (bigB (12 + 2 * X.length) 2 ++ (idxB (eachX X) X.length ++ colB X))))))
theorem colB_le {X : List (List Px)} {e : Nat} (h : ∀ row ∈ X, row.length ≤ e) : (colB X).length ≤ X.length * (4 * e) := by
  induction X with
  | nil => simp [colB]
  | cons row X ih =>
    show (rowB row ++ colB X).length ≤ _
    have h1 := h row (List.mem_cons_self ..)
    have h2 := ih fun r hr => h r (List.mem_cons_of_mem _ hr)
    rw [List.length_append, rowB_len, List.length_cons, Nat.add_mul]
    omega
structure LInv (N : Nat) (os W : List (Option AObj)) (I C : List Nat) (qi qc : Nat) : Prop where
  old : ∀ j, j < N → (W[j]?).join = (os[j]?).join
  le : N ≤ W.length
  i : I.length ≠ 0 → N ≤ qi ∧ (W[qi]?).join = some (.cells true (bytesV I))
  c : C.length ≠ 0 → N ≤ qc ∧ (W[qc]?).join = some (.cells true (bytesV C))
  ne : I.length ≠ 0 → C.length ≠ 0 → qi ≠ qc
theorem LInv.addI {N : Nat} {os W : List (Option AObj)} {I C nb : List Nat} {qi qc n : Nat} (h : LInv N os W I C qi qc) (hn : n = I.length) {l : List (Option AObj)} {k : Nat} (hk : (l[k]?).join = some (.cells true (bytesV (I ++ nb)))) : LInv N os (Sp.setK n W qi ++ l) (I ++ nb) C (W.length + k) qc := by
  have hle := h.le
  subst hn
  refine ⟨fun j hj => ?_, by simp [setK_len]; omega, fun _ => ⟨by omega, by rw [tn_at]; exact hk⟩, fun h0 => ⟨(h.c h0).1, ?_⟩, fun _ h0 => ?_⟩
  · rw [join_app (by rw [setK_len]; omega), setK_at (fun e => by have := (h.i e).1; omega), h.old j hj]
  · have := join_lt (h.c h0).2
    rw [join_app (by rw [setK_len]; omega), setK_at (fun e => (h.ne e h0).symm)]; exact (h.c h0).2
  · have := join_lt (h.c h0).2; omega
theorem LInv.addC {N : Nat} {os W : List (Option AObj)} {I C nb : List Nat} {qi qc n : Nat} (h : LInv N os W I C qi qc) (hn : n = C.length) {l : List (Option AObj)} {k : Nat} (hk : (l[k]?).join = some (.cells true (bytesV (C ++ nb)))) : LInv N os (Sp.setK n W qc ++ l) I (C ++ nb) qi (W.length + k) := by
  have hle := h.le
  subst hn
  refine ⟨fun j hj => ?_, by simp [setK_len]; omega, fun h0 => ⟨(h.i h0).1, ?_⟩, fun _ => ⟨by omega, by rw [tn_at]; exact hk⟩, fun h0 _ => ?_⟩
  · rw [join_app (by rw [setK_len]; omega), setK_at (fun e => by have := (h.c e).1; omega), h.old j hj]
  · have := join_lt (h.i h0).2
    rw [join_app (by rw [setK_len]; omega), setK_at (fun e => (h.ne h0 e))]; exact (h.i h0).2
  · have := join_lt (h.i h0).2; omega
theorem u2_tl {f : FnT} (h : U2F f) {X : List (Option AObj)} {N : Nat} [hN : LenIs X N] (n : Nat) (l : List (Option AObj)) : f [.int .i64 (n : Int)] (tl X l) = some (.slice (some (N + l.length, 0)) 1 2 2 true, tl X (l ++ [some (.cells true (bytesV (bigB n 2)))])) := by
  have := h (X ++ l) n
  rw [List.length_append, hN.eq, List.append_assoc] at this
  exact this
theorem take_big2 {n z : Nat} : takeN z (bytesV (bigB n z)) = some (bytesV (bigB n z)) := by
  have : (bytesV (bigB n z)).length = z := by rw [bytesV_len, bigB_len]
  rw [takeN_of (by omega), List.take_of_length_le (by omega)]
def LayPF (f : FnT) : Prop := ∀ os v X, XSee os v X → X.length ≤ 8 → (∀ row ∈ X, row.length ≤ 8 ∧ ∀ P ∈ row, P.ok) →
  f [v] (few os) = if ∀ row ∈ X, row.length = eachX X then some (.tuple [.slice (some (os.length, 0)) 1 (layP X).length (layP X).length false, .int .i64 0], few (os ++ [some (newBytes (layP X))])) else some (.tuple [.slice none 0 0 0 true, .int .i64 1], few os)
def LayPost (os : List (Option AObj)) (X : List (List Px)) (u : V) (st : St) : Prop := ∃ os', st = few os' ∧ if ∀ row ∈ X, row.length = eachX X then (∃ p, u = .tuple [.slice (some (p, 0)) 1 (layP X).length (layP X).length false, .int .i64 0] ∧ os.length ≤ p ∧ (os'[p]?).join = some (newBytes (layP X))) else u = .tuple [.slice none 0 0 0 true, .int .i64 1]
theorem look_eight {os : List (Option AObj)} {q n : Nat} {f : Bool} {vs : List V} {bss : List (List Nat)} (h : (os[q]?).join = some (.cells true vs)) (hl : vs.length = n) (hb : bss.length = n) (hs : ∀ (j : Nat) (v : V) (b : List Nat), vs[j]? = some v → bss[j]? = some b → See os v b) : lookSL (few os).look (.slice (some (q, 0)) 1 n n f) = some bss ∧ (V.slice (some (q, 0)) 1 n n f).good os.length = true := by
  have hq := join_lt h
  have hg : goods os.length vs = true := goods_mem.2 fun v hv => by
    obtain ⟨j, hj⟩ := List.mem_iff_getElem?.1 hv
    have hjl := (List.getElem?_eq_some_iff.1 hj).1
    obtain ⟨b, hbj⟩ : ∃ b, bss[j]? = some b := ⟨_, List.getElem?_eq_getElem (by omega)⟩
    exact (hs j v b hj hbj).good
  refine ⟨?_, by simp [V.good]; exact hq⟩
  show (if n ≤ n then match (few os).look q with | some (.cells _ cs) => (match cut 0 n cs with | some vs => if vs.length = n then lookBs (few os).look vs else none | none => none) | _ => none else none) = _
  rw [if_pos (Nat.le_refl _), look_of (o := .cells true vs) (by rw [few_next]; exact hq) (by rw [few_get]; exact h) (by rw [few_next]; exact hg)]
  show (match cut 0 n vs with | some vs => if vs.length = n then lookBs (few os).look vs else none | none => none) = _
  rw [cut_of (by omega), List.drop_zero, List.take_of_length_le (by omega)]
  show (if vs.length = n then lookBs (few os).look vs else none) = _
  rw [if_pos hl]
  exact lookBs_of (by omega) fun j v b h1 h2 => (hs j v b h1 h2).2
set_option maxHeartbeats 4000000 in
theorem LayEnd_run {base : CallT} {lf nU nC : Nat} (hU : U2F (base nU)) (hC : ConcatF base nC) {os W : List (Option AObj)} {v : V} {X : List (List Px)} (hn : X.length ≤ 8) (hall : ∀ row ∈ X, row.length = eachX X) (he8 : eachX X ≤ 8) (hr : ∀ row ∈ X, row.length ≤ 8 ∧ ∀ P ∈ row, P.ok)
    (hln : ∀ st, lenV st .slice v = some (.int .i64 (X.length : Int))) {qi qc : Nat} (hI : LInv os.length os W (idxB (eachX X) X.length) (colB X) qi qc) {s : Env} (s1 : s .h = v) (s2 : s (.i (.o .h)) = .int .i64 (eachX X : Int)) (s3 : s (.o (.i .h)) = elS 1 qi (2 * X.length)) (s4 : s (.i (.i .h)) = elS 1 qc (colB X).length) :
    wp base lf (LayEnd nU nC) s (few W) (finQ [.tmp (.i .h), .tmp (.o (.o .h))] (LayPost os X)) := by
  unfold LayEnd
  obtain ⟨n, hne⟩ : ∃ n, n = X.length := ⟨_, rfl⟩
  obtain ⟨each, he⟩ : ∃ each, each = eachX X := ⟨_, rfl⟩
  rw [← hne] at hln s3
  rw [← he] at s2
  obtain ⟨ne, hned⟩ : ∃ t, t = n * each := ⟨_, rfl⟩
  have hmul : (n : Int) * (each : Int) = (ne : Int) := by rw [hned]; push_cast; rfl
  have hneb : ne ≤ 64 := by rw [hned]; exact Nat.le_trans (Nat.mul_le_mul (show n ≤ 8 by omega) (show each ≤ 8 by omega)) (by omega)
  have hcl := colB_le (X := X) (e := 8) fun row h => (hr row h).1
  have hil := idxB_len (each := each) n
  have u0 : ∀ (Y : List (Option AObj)) (l : List (Option AObj)), base nU [.int .i64 0] (tl Y l) = some (.slice (some (Y.length + l.length, 0)) 1 2 2 true, tl Y (l ++ [some (.cells true (bytesV (bigB 0 2)))])) := fun Y l => u2_tl hU (X := Y) 0 l
  have u1 : ∀ (k : Nat) (Y : List (Option AObj)) (l : List (Option AObj)), base nU [.int .i64 (k : Int)] (tl Y l) = _ := fun k Y l => u2_tl hU (X := Y) k l
  have at12 : ∀ (Y : List (Option AObj)) (l : List (Option AObj)), base nU [.int .i64 (12 + 2 * (n : Int))] (tl Y l) = some (.slice (some (Y.length + l.length, 0)) 1 2 2 true, tl Y (l ++ [some (.cells true (bytesV (bigB (12 + 2 * n) 2)))])) := fun Y l => by
    rw [show 12 + 2 * (n : Int) = ((12 + 2 * n : Nat) : Int) from by omega]; exact u2_tl hU (X := Y) _ l
  have hl1 : ∀ st, lenV st .slice (elS 1 qi (2 * n)) = some (.int .i64 (2 * (n : Int))) := fun st => by
    rw [elS_len]; push_cast; rfl
  obtain ⟨c, hc⟩ : ∃ c, c = (colB X).length := ⟨_, rfl⟩
  rw [← hc] at s4 hcl
  obtain ⟨vs, hvs⟩ : ∃ vs : List V, vs = [.slice (some (W.length, 0)) 1 2 2 true, .slice (some (W.length + 1, 0)) 1 2 2 true, .slice (some (W.length + 2, 0)) 1 2 2 true, .slice (some (W.length + 3, 0)) 1 2 2 true, .slice (some (W.length + 4, 0)) 1 2 2 true, .slice (some (W.length + 5, 0)) 1 2 2 true, elS 1 qi (2 * n), elS 1 qc c] := ⟨_, rfl⟩
  obtain ⟨L, hL⟩ : ∃ L : List (Option AObj), L = [some (.cells true (bytesV (bigB 0 2))), some (.cells true (bytesV (bigB each 2))), some (.cells true (bytesV (bigB n 2))), some (.cells true (bytesV (bigB ne 2))), some (.cells true (bytesV (bigB 0 2))), some (.cells true (bytesV (bigB (12 + 2 * n) 2))), some (.cells true vs)] := ⟨_, rfl⟩
  have hfl : [bigB 0 2, bigB each 2, bigB n 2, bigB ne 2, bigB 0 2, bigB (12 + 2 * n) 2, idxB each n, colB X].flatten = layP X := by
    unfold layP
    rw [← he, ← hne, ← hned]; simp
  have hlook := look_eight (os := W ++ L) (q := W.length + 6) (n := 8) (f := true) (vs := vs) (bss := [bigB 0 2, bigB each 2, bigB n 2, bigB ne 2, bigB 0 2, bigB (12 + 2 * n) 2, idxB each n, colB X]) (by rw [tl_at, hL]; rfl) (by rw [hvs]; rfl) rfl (fun j v b hv hb => by
    have two : ∀ k m, (L[k]?).join = some (newBytes (bigB m 2)) → See (W ++ L) (.slice (some (W.length + k, 0)) 1 2 2 true) (bigB m 2) := fun k m h => by
      have := See.own (os := W ++ L) (p := W.length + k) (c := 2) (bs := bigB m 2) (f := true) (by rw [tl_at]; exact h) (bigB_lt _ _) (by rw [bigB_len]; omega)
      rw [bigB_len] at this; exact this
    have grow : ∀ q (B : List Nat), (∀ b ∈ B, b < 256) → (B.length ≠ 0 → (W[q]?).join = some (.cells true (bytesV B))) → See (W ++ L) (elS 1 q B.length) B := fun q B h256 h => by
      by_cases h0 : B.length = 0
      · have : B = [] := List.length_eq_zero_iff.1 h0
        subst this; exact See.nil
      · have e : elS 1 q B.length = .slice (some (q, 0)) 1 B.length B.length false := if_neg h0
        rw [e]; exact (See.own (h h0) h256 (Nat.le_refl _)).grow
    rw [hvs] at hv
    match j, hv, hb with
    | 0, hv, hb => cases hv; cases hb; exact two 0 0 (by rw [hL]; rfl)
    | 1, hv, hb => cases hv; cases hb; exact two 1 each (by rw [hL]; rfl)
    | 2, hv, hb => cases hv; cases hb; exact two 2 n (by rw [hL]; rfl)
    | 3, hv, hb => cases hv; cases hb; exact two 3 ne (by rw [hL]; rfl)
    | 4, hv, hb => cases hv; cases hb; exact two 4 0 (by rw [hL]; rfl)
    | 5, hv, hb => cases hv; cases hb; exact two 5 (12 + 2 * n) (by rw [hL]; rfl)
    | 6, hv, hb =>
      cases hv; cases hb
      have := grow qi (idxB each n) (fun b hb => by
        unfold idxB at hb
        obtain ⟨t, h1, h2⟩ := List.mem_flatten.1 hb
        obtain ⟨k, _, rfl⟩ := List.mem_map.1 h1
        exact bigB_lt _ _ b h2) (fun h0 => by rw [he, hne]; exact (hI.i (by rw [← he, ← hne]; exact h0)).2)
      rw [hil] at this; exact this
    | 7, hv, hb =>
      cases hv; cases hb
      rw [hc]
      refine grow qc (colB X) (fun b hb => ?_) (fun h0 => (hI.c h0).2)
      unfold colB rowB at hb
      obtain ⟨t, h1, h2⟩ := List.mem_flatten.1 hb
      obtain ⟨row, h3, rfl⟩ := List.mem_map.1 h1
      obtain ⟨t2, h4, h5⟩ := List.mem_flatten.1 h2
      obtain ⟨P, h6, rfl⟩ := List.mem_map.1 h4
      obtain ⟨k1, k2, k3, k4⟩ := (hr row h3).2 P h6
      simp [pxB] at h5
      omega
    | j + 8, hv, hb => simp at hv)
  have cc := hC (W ++ L) _ _ hlook.2 hlook.1 (by simp) (by rw [hfl]; unfold layP; simp [bigB_len, ← he, ← hne, hil]; omega)
  rw [hfl] at cc
  have hne0 : layP X ≠ [] := fun e => by have := congrArg List.length e; unfold layP at this; simp [bigB_len] at this
  unfold concatA at cc
  rw [if_neg hne0] at cc
  have cc : base nC [.slice (some (W.length + 6, 0)) 1 8 8 true] (tl W L) = some (.slice (some (W.length + 7, 0)) 1 (layP X).length (layP X).length false, tl W (L ++ [some (newBytes (layP X))])) := by
    rw [List.length_append, List.append_assoc] at cc
    have : L.length = 7 := by rw [hL]; rfl
    rw [this] at cc
    exact cc
  rw [hL, hvs] at cc
  have hcl1 := elS_cells (e := 1) (q := qi) (n := 2 * n)
  have hcl2 := elS_cells (e := 1) (q := qc) (n := c)
  rw [tl_of (X := W)]
  simp (disch := omega) [s1, s2, s3, s4, hln, hl1, u0, u1, at12, hmul, wrap_i, hcl1, hcl2, cc]
  refine ⟨_, rfl, ?_⟩
  rw [if_pos hall]
  exact ⟨W.length + 7, rfl, by have := hI.le; omega, by rw [tl_at]; rfl⟩
set_option maxHeartbeats 4000000 in
theorem LayRest_run {base : CallT} {lf nK nU nC nN : Nat} (hlf : 100 ≤ lf) (hK : ContPxL nN (base nK)) (hU : U2F (base nU)) (hC : ConcatF base nC) {os : List (Option AObj)} {v : V} {X : List (List Px)} (hX : XSee os v X) (hn : X.length ≤ 8) (hr : ∀ row ∈ X, row.length ≤ 8 ∧ ∀ P ∈ row, P.ok) (he8 : eachX X ≤ 8)
    {s0 : Env} (e1 : s0 .h = v) (e2 : s0 (.i (.o .h)) = .int .i64 (eachX X : Int)) :
    wp base lf (LayRest nK nU nC nN) s0 (few os) (finQ [.tmp (.i .h), .tmp (.o (.o .h))] (LayPost os X)) := by
  unfold LayRest
  obtain ⟨n, hne⟩ : ∃ n, n = X.length := ⟨_, rfl⟩
  obtain ⟨each, he⟩ : ∃ each, each = eachX X := ⟨_, rfl⟩
  have hln := fun st => hX.len st
  have hpl := hX.plain
  rw [← hne] at hln
  rw [← he] at e2 he8
  simp (disch := omega) [e1, e2, hln, hpl]
  refine wp_loop (fun k s st => ∃ i W qi qc, i + k = n ∧ st = few W ∧ LInv os.length os W (idxB each i) (colB (X.take i)) qi qc ∧ (∀ (j : Nat) (row : List Px), j < i → X[j]? = some row → row.length = each) ∧ s .h = v ∧ s (.i (.o .h)) = .int .i64 (each : Int) ∧ s (.o (.i .h)) = elS 1 qi (2 * i) ∧ s (.i (.i .h)) = elS 1 qc (colB (X.take i)).length ∧ s (.o (.o (.o (.i .h)))) = v ∧ s (.i (.o (.o (.i .h)))) = .int .i64 (n : Int) ∧ s (.o (.i (.o (.i .h)))) = .int .i64 (i : Int)) n ?_ (by omega) ?_
  · refine ⟨0, os, 0, 0, by omega, rfl, ⟨fun _ _ => rfl, Nat.le_refl _, fun h => absurd rfl h, fun h => absurd rfl h, fun h => absurd rfl h⟩, fun j row h => by omega, ?_, ?_, ?_, ?_, ?_, ?_, ?_⟩ <;> simp [e1, e2, elS, colB]
  · rintro k s st ⟨i, W, qi, qc, hk, rfl, hI, hall, s1, s2, s3, s4, s5, s6, s7⟩
    cases k with
    | zero =>
      have hin : i = n := by omega
      subst hin
      have hall' : ∀ row ∈ X, row.length = eachX X := fun row h => by
        obtain ⟨j, hj⟩ := List.mem_iff_getElem?.1 h
        rw [← he]
        exact hall j row (by have := (List.getElem?_eq_some_iff.1 hj).1; omega) hj
      rw [List.take_of_length_le (by omega)] at hI s4
      simp (disch := omega) [s1, s2, s3, s4, s5, s6, s7, dlt_t, dlt_f, dle_t, dle_f, dltn_t, dltn_f, dlen_t, dlen_f, deq_t, deq_f, deqn_t, deqn_f]
      refine LayEnd_run hU hC hn hall' (by rw [← he]; exact he8) hr (fun st => by rw [← hne]; exact hln st) (by rw [← hne, ← he]; exact hI) ?_ ?_ ?_ ?_ <;> simp [s1, s2, s3, s4, he, hne]
    | succ k =>
      obtain ⟨row, hrow⟩ : ∃ row, X[i]? = some row := ⟨_, List.getElem?_eq_getElem (by omega)⟩
      obtain ⟨hr8, hrok⟩ := hr row (List.mem_of_getElem? hrow)
      have hle := hI.le
      obtain ⟨p, w, d1, d3os, d2os⟩ := hX.ldK hrow
      have d2 := fun l => d2os W l hI.old
      have d3 : RowSee W w row := d3os.keep hI.old hle
      have d1 : idxAddrV (.slice 1) v (some i) = some (.ptr (some p)) := d1 (.int .i64 (i : Int)) rfl
      have hwl := fun st => d3.len st
      have hwp := d3.plain
      have ck : ∀ l, base nK [w, .func nN [] []] (tl W l) = some (.bool false, tl W l) := fun l => hK (W ++ l) w row d3.grow hrok (by omega)
      obtain ⟨z, hz⟩ : ∃ z, z = row.length := ⟨_, rfl⟩
      rw [← hz] at hwl hr8
      rw [tl_of (X := W)]
      by_cases hze : z = each
      · obtain ⟨t, ht⟩ : ∃ t, t = i * each := ⟨_, rfl⟩
        have hmul : (i : Int) * (each : Int) = (t : Int) := by rw [ht]; push_cast; rfl
        have htb : t ≤ 64 := by rw [ht]; exact Nat.le_trans (Nat.mul_le_mul (show i ≤ 8 by omega) (show each ≤ 8 by omega)) (by omega)
        have u1 : ∀ l, base nU [.int .i64 (t : Int)] (tl W l) = _ := fun l => u2_tl hU (X := W) t l
        have hil := idxB_len (each := each) i
        have g1 : ∀ l, appendV (tl W l) 1 1 (elS 1 qi (2 * i)) (some 2) (some (bytesV (bigB t 2))) = some (.slice (some (W.length + l.length, 0)) 1 (2 * i + 2) (2 * i + 2) false, tl (Sp.setK (2 * i) W qi) (l ++ [some (.cells true (bytesV (idxB each i ++ bigB t 2)))])) := fun l =>
          growB_tn (X := W) (m := 1) hil (bigB_len _ _) (by omega) (fun h => (hI.i (by rw [hil]; exact h)).2) l
        have hwl' : ∀ st, lenV st .slice w = some (.int .i64 (each : Int)) := fun st => by rw [hwl, hze]
        simp (disch := omega) [s1, s2, s3, s4, s5, s6, s7, dlt_t, dlt_f, dle_t, dle_f, dltn_t, dltn_f, dlen_t, dlen_f, deq_t, deq_f, deqn_t, deqn_f, d1, d2, hwp, hwl', ck, hmul, wrap_i, u1, take_big2, g1]
        have hI1 := hI.addI (n := 2 * i) hil.symm (nb := bigB t 2) (l := [some (.cells true (bytesV (bigB t 2))), some (.cells true (bytesV (idxB each i ++ bigB t 2)))]) (k := 1) rfl
        rw [show idxB each i ++ bigB t 2 = idxB each (i + 1) from by rw [idxB_succ, ht]] at hI1
        rw [tl_eq, show idxB each i ++ bigB t 2 = idxB each (i + 1) from by rw [idxB_succ, ht]]
        obtain ⟨c, hc⟩ : ∃ c, c = (colB (X.take i)).length := ⟨_, rfl⟩
        have hcb : c ≤ i * 32 := by
          have := colB_le (X := X.take i) (e := 8) fun r h => (hr r (List.mem_of_mem_take h)).1
          rw [List.length_take, Nat.min_eq_left (by omega)] at this
          omega
        refine wp_loop (fun k' s st => ∃ j Y qj, j + k' = each ∧ st = few Y ∧ LInv os.length os Y (idxB each (i + 1)) (colB (X.take i) ++ rowB (row.take j)) (W.length + 1) qj ∧ s .h = v ∧ s (.i (.o .h)) = .int .i64 (each : Int) ∧ s (.o (.i .h)) = .slice (some (W.length + 1, 0)) 1 (2 * i + 2) (2 * i + 2) false ∧ s (.i (.i .h)) = elS 1 qj (c + 4 * j) ∧ s (.o (.o (.o (.i .h)))) = v ∧ s (.i (.o (.o (.i .h)))) = .int .i64 (n : Int) ∧ s (.o (.i (.o (.i .h)))) = .int .i64 (i : Int) ∧
          s (.o (.i (.o (.o (.i .h))))) = w ∧ s (.i (.i (.o (.o (.i .h))))) = .int .i64 (each : Int) ∧ s (.o (.o (.i (.o (.i .h))))) = .int .i64 (j : Int)) each ?_ (by omega) ?_
        · refine ⟨0, _, qc, by omega, rfl, by rw [List.take_zero, show rowB [] = [] from rfl, List.append_nil]; exact hI1, ?_, ?_, ?_, ?_, ?_, ?_, ?_, ?_, ?_, ?_⟩ <;> simp [s1, s2, s3, s4, s5, s6, s7, hc]
        · rintro k' s' st ⟨j, Y, qj, hk', rfl, hJ, t1, t2, t3, t4, t5, t6, t7, t8, t9, t10⟩
          have hJl : (colB (X.take i) ++ rowB (row.take j)).length = c + 4 * j := by rw [List.length_append, rowB_len, List.length_take, Nat.min_eq_left (by omega), hc]
          cases k' with
          | zero =>
            have hje : j = each := by omega
            subst hje
            simp (disch := omega) [t1, t2, t3, t4, t5, t6, t7, t8, t9, t10, dlt_t, dlt_f, dle_t, dle_f, dltn_t, dltn_f, dlen_t, dlen_f, deq_t, deq_f, deqn_t, deqn_f, wrap_i]
            have etk : row.take j = row := List.take_of_length_le (by omega)
            rw [etk, ← colB_succ hrow] at hJ hJl
            exact ⟨k, by omega, i + 1, by omega, Y, rfl, W.length + 1, qj, hJ, fun b r hb hbr => by
              by_cases hbi : b < i
              · exact hall b r hbi hbr
              · have : b = i := by omega
                subst this
                rw [hrow] at hbr; cases hbr; omega, (if_neg (by omega)).symm, by rw [hJl], by omega⟩
          | succ k' =>
            obtain ⟨P, hP⟩ : ∃ P, row[j]? = some P := ⟨_, List.getElem?_eq_getElem (by omega)⟩
            obtain ⟨h1, h2, h3, h4⟩ := hrok P (List.mem_of_getElem? hP)
            have d3Y : RowSee Y w row := d3os.keep hJ.old hJ.le
            obtain ⟨pp, x1, x2⟩ := d3Y.ld hP
            have x1 : idxAddrV (.slice 4) w (some j) = some (.ptr (some pp)) := x1 (.int .i64 (j : Int)) rfl
            have x2 : ∀ l, loadV (tl Y l) true 4 (.ptr (some pp)) = some (.agg [.int .i64 (P.r : Int), .int .i64 (P.g : Int), .int .i64 (P.b : Int), .int .i64 (P.a : Int)]) := x2
            have w1 : wrapV .u8 (P.r : Int) = (P.r : Int) := wrap_u8 h1
            have w2 : wrapV .u8 (P.g : Int) = (P.g : Int) := wrap_u8 h2
            have w3 : wrapV .u8 (P.b : Int) = (P.b : Int) := wrap_u8 h3
            have w4 : wrapV .u8 (P.a : Int) = (P.a : Int) := wrap_u8 h4
            have g2 : ∀ l, appendV (tl Y l) 1 1 (elS 1 qj (c + 4 * j)) (some 4) (some [.int .u8 (P.b : Int), .int .u8 (P.g : Int), .int .u8 (P.r : Int), .int .u8 (P.a : Int)]) = some (.slice (some (Y.length + l.length, 0)) 1 (c + 4 * j + 4) (c + 4 * j + 4) false, tl (Sp.setK (c + 4 * j) Y qj) (l ++ [some (.cells true (bytesV ((colB (X.take i) ++ rowB (row.take j)) ++ pxB P)))])) := fun l =>
              growB_tn (X := Y) (m := 3) (nb := pxB P) hJl rfl (by omega) (fun h => (hJ.c (by rw [hJl]; exact h)).2) l
            rw [tl_of (X := Y)]
            simp (disch := omega) [t1, t2, t3, t4, t5, t6, t7, t8, t9, t10, dlt_t, dlt_f, dle_t, dle_f, dltn_t, dltn_f, dlen_t, dlen_f, deq_t, deq_f, deqn_t, deqn_f, x1, x2, w1, w2, w3, w4, g2, wrap_i]
            have hJ1 := hJ.addC (n := c + 4 * j) hJl.symm (nb := pxB P) (l := [some (.cells true (pxV P)), some (.cells true [.int .u8 (P.b : Int), .int .u8 (P.g : Int), .int .u8 (P.r : Int), .int .u8 (P.a : Int)]), some (.cells true (bytesV ((colB (X.take i) ++ rowB (row.take j)) ++ pxB P)))]) (k := 2) rfl
            rw [List.append_assoc, ← rowB_succ hP] at hJ1
            rw [← rowB_succ hP]
            exact ⟨k', by omega, j + 1, by omega, _, rfl, Y.length + 2, hJ1, (if_neg (by omega)).symm, by omega⟩
      · have hbad : ¬ ∀ row ∈ X, row.length = eachX X := fun h => hze (by rw [hz, he]; exact h row (List.mem_of_getElem? hrow))
        simp (disch := omega) [s1, s2, s3, s4, s5, s6, s7, dlt_t, dlt_f, dle_t, dle_f, dltn_t, dltn_f, dlen_t, dlen_f, deq_t, deq_f, deqn_t, deqn_f, d1, d2, hwp, hwl, ck]
        exact ⟨W, tl_of.symm, by rw [if_neg hbad]⟩
set_option maxHeartbeats 1000000 in
theorem LayPF.auto {base : CallT} {g lf nK nU nC nN : Nat} (hlf : 100 ≤ lf) (hK : ContPxL nN (base nK)) (hU : U2F (base nU)) (hC : ConcatF base nC) : LayPF (withL base g (lawOf (autoRd base lf (LayP_c nK nU nC nN))) g) := fun os v X hX hn hr => by
  have he8 : eachX X ≤ 8 := by
    unfold eachX
    cases X with
    | nil => simp
    | cons row X => exact (hr row (List.mem_cons_self ..)).1
  have run : ∀ Y, covers (few os) Y → ∃ u st', enterF base lf [v] (few Y) (LayP_c nK nU nC nN) = some (u, st') ∧ LayPost Y X u st' := fun Y hY => by
    have hX := hX.cov hY
    have main := enter_wp (call := base) (lf := lf) (n := 93) (args := [v]) (st := few Y) (K := LayPost Y X) (c := (LayP_c nK nU nC nN).code) (rs := (LayP_c nK nU nC nN).results) ?_
    · exact main
    · unfold LayP_c
      dsimp only
      obtain ⟨n, hne⟩ : ∃ n, n = X.length := ⟨_, rfl⟩
      have hln := fun st => hX.len st
      have hpl := hX.plain
      rw [← hne] at hln
      have rest : ∀ {t : Env}, t .h = v → t (.i (.o .h)) = .int .i64 (eachX X : Int) → wp base lf (LayRest nK nU nC nN) t (few Y) (finQ [.tmp (.i .h), .tmp (.o (.o .h))] (LayPost Y X)) := fun h1 h2 => LayRest_run hlf hK hU hC hX hn hr he8 h1 h2
      by_cases hn0 : n = 0
      · have e0 : eachX X = 0 := by rw [show X = [] from List.length_eq_zero_iff.1 (by omega)]; rfl
        subst hn0
        simp (disch := omega) [hln, hpl, dlt_t, dlt_f, dle_t, dle_f, dltn_t, dltn_f, dlen_t, dlen_f, deq_t, deq_f, deqn_t, deqn_f]
        refine rest ?_ ?_ <;> simp [e0]
      · obtain ⟨row, hrow⟩ : ∃ row, X[0]? = some row := ⟨_, List.getElem?_eq_getElem (by omega)⟩
        obtain ⟨p, w, d1, d3, d2⟩ := hX.ldK hrow
        have d1 : idxAddrV (.slice 1) v (some 0) = some (.ptr (some p)) := d1 (.int .i64 0) rfl
        have d2 := fun l => d2 Y l (fun _ _ => rfl)
        have hwl := fun st => d3.len st
        have ee : row.length = eachX X := by
          unfold eachX
          cases X with
          | nil => simp at hrow
          | cons r X => cases hrow; rfl
        rw [ee] at hwl
        rw [tl_of (X := Y)]
        simp (disch := omega) [hln, hpl, dlt_t, dlt_f, dle_t, dle_f, dltn_t, dltn_f, dlen_t, dlen_f, deq_t, deq_f, deqn_t, deqn_f, d1, d2, hwl]
        rw [← tl_of]
        refine rest ?_ ?_ <;> simp
  have hg : goods os.length [v] = true := by simp [goods, hX.good]
  by_cases hall : ∀ row ∈ X, row.length = eachX X
  · rw [if_pos hall]
    refine auto_one (cs := bytesV (layP X)) (F := fun p => .tuple [.slice (some (p, 0)) 1 (layP X).length (layP X).length false, .int .i64 0]) hg (List.all_eq_true.2 bytesV_flat) (fun p => ⟨rfl, ?_, fun n hn => ?_⟩) fun Y hY => ?_
    · simp [ok2, ok1, V.leads, V.flat]
    · simp [rn2, rn1, rn0, rn, Nat.not_lt.2 hn]
    · obtain ⟨u, st', e, os', rfl, h⟩ := run Y hY
      rw [if_pos hall] at h
      obtain ⟨p, rfl, h1, h2⟩ := h
      exact ⟨p, os', e, by rw [cov_len hY] at h1; exact h1, h2⟩
  · rw [if_neg hall]
    refine auto_flat hg rfl rfl fun Y hY => ?_
    obtain ⟨u, st', e, os', rfl, h⟩ := run Y hY
    rw [if_neg hall] at h
    subst h
    exact ⟨_, e⟩
end Go.Vabs.Dc
