/-
  Cd
-/
import Derived.Test.YtglopgoonbocpaaVabsCc
import Derived.Test.YtglopgoonbocpaaVabsZd
import Derived.Test.YtglopgoonbocpaaVabsSb
import Derived.Test.YtglopgoonbocpaaVabsZj
import Derived.Test.YtglopgoonbocpaaVabsNa
import Derived.Test.YtglopgoonbocpaaVabsSp
namespace Go.Vabs.Cd
set_option linter.unusedVariables false
set_option linter.unusedSimpArgs false
set_option maxRecDepth 10000
attribute [local simp] wp_skip wp_ret wp_exit wp_reg wp_seq wp_cond wp_block thenQ_normal thenQ_ret thenQ_exit blockQ_normal blockQ_ret blockQ_exit wpCond_true wpCond_false wpOps_nil wpVal_some wpGuard_true wpGuard_false wpOps_guard wpOps_cons
  put_at put_no ev_c ev_slot posEq_h posEq_o posEq_i posEq_ho posEq_hi posEq_oh posEq_ih posEq_oi posEq_io sel_true sel_false
  okv_some step_mv step_call step_pick pickV_bool step_bin bin_add bin_sub bin_mul bin_eql bin_neq bin_lss bin_leq bin_gtr bin_geq bin_eqb bin_neb bin_eqs bin_nes step_un un_not un_neg step_len len_slice len_str len_const step_extract extractV nth step_convInt conv_int step_convStr step_slice step_idxAddr natOf_nat step_load step_index step_field step_fieldAddr step_build step_minmax
  step_alloc step_bslice bsliceV_some newV_some step_store step_append boolIs_b boolIs_t finQ_ret finQ_normal ressE_nil ressE_cons resE_tmp consO_some initE_nil initE_cons pos_0 pos_1 pos_2 pos_3 pos_4 pos_5 pos_6 pos_7 pos_8 plain_bool plain_int plain_str plain_ptr plain_slice plain_map plain_agg plain_func plain_nilFunc V.undef oneOf_one oneOf_two ble_self
open Go.Vabs.Pk Go.Vabs.Ph Go.Vabs.Sa Go.Vabs.Sb Go.Vabs.Sc Go.Vabs.Sd Go.Vabs.Se Go.Vabs.Sg Go.Vabs.Sh Go.Vabs.Sm Go.Vabs.Sn Go.Vabs.Sp Go.Vabs.Sr Go.Vabs.St Go.Vabs.Su Go.Vabs.L2 Go.Vabs.Na Go.Vabs.Nb Go.Vabs.Ra Go.Vabs.Rb Go.Vabs.Rc Go.Vabs.Rd Go.Vabs.Re Go.Vabs.Ca Go.Vabs.Cb Go.Vabs.Cc
attribute [local simp] step_nilchk nilchk_ptr step_box cells_int cells_bool cells_str cells_slice cells_ptr cells_agg fieldAddrV natOf_zero fill repN splice over newV step_appendZ
  wp_dreg wpDs_nil wpDs_cons wantedE_none wantedE_some wpDGuard_true wpDGuard_lim wpDGuard_false wpDLim_true wpDVal_free wpDVal_lim back_limited next_limited limF_dir foot_load foot_convStr okAll_nil okAll_cons pastsOf nthP ahead few_next load_limited convStr_limited blt_dec okPair_dd okPair_dc okPair_cd okPair_cc anyIn_nil anyIn_same anyIn_cons meets_nil meets_nil'
/- THE NEAREST SIZE -/
def nearN (p : Int) (b s : Nat) : Bool := (decide (p ≤ (s : Int)) && (decide ((b : Int) < p) || decide (s < b))) || (decide ((b : Int) < p) && decide (b < s))
/-- Which of the first k + 1 is the nearest. -/
def bestI (p : Int) (ps : List Nat) : Nat → Nat
  | 0 => 0
  | k + 1 => if nearN p (ps.getD (bestI p ps k) 0) (ps.getD (k + 1) 0) then k + 1 else bestI p ps k
theorem bestI_le {p : Int} {ps : List Nat} : ∀ k, bestI p ps k ≤ k
  | 0 => Nat.le_refl _
  | k + 1 => by
    unfold bestI
    split
    · exact Nat.le_refl _
    · have := bestI_le (p := p) (ps := ps) k; omega
def chosenZ (p : Int) (L : List Sz) : Option Sz := if L = [] then none else L[bestI p (L.map (·.ppem)) (L.length - 1)]?
theorem ppem_at {L : List Sz} {k : Nat} {a : Sz} (h : L[k]? = some a) : (L.map (·.ppem)).getD k 0 = a.ppem := by
  rw [List.getD_eq_getElem?_getD, List.getElem?_map, h]; rfl
def zS : Sz := ⟨0, 0, 0, 0, 0⟩
def ChosenZF (call : CallT) (g : Nat) : Prop := ∀ os q L (p : Int), (L ≠ [] → ∃ own, (os[q]?).join = some (.cells own (elV szV L))) → L.length ≤ 64 → ∃ l, call g [elS 5 q L.length, .int .i64 p] (few os) = some (.tuple [.agg (szV ((chosenZ p L).getD zS)), .bool (chosenZ p L).isSome], few (os ++ l))
set_option maxHeartbeats 4000000 in
theorem ChosenZ_run {call : CallT} {lf : Nat} (hlf : 70 ≤ lf) {os : List (Option AObj)} {q : Nat} {L : List Sz} {ppem : Int} (h : L ≠ [] → ∃ own, (os[q]?).join = some (.cells own (elV szV L))) (hL : L.length ≤ 64) :
    ∃ l, enterF call lf [elS 5 q L.length, .int .i64 ppem] (few os) chosen5_c = some (.tuple [.agg (szV ((chosenZ ppem L).getD zS)), .bool (chosenZ ppem L).isSome], few (os ++ l)) := by
  have main := enter_wp (call := call) (lf := lf) (n := 58) (args := [elS 5 q L.length, .int .i64 ppem]) (st := few os) (K := fun u st => (∃ l, st = few (os ++ l)) ∧ u = .tuple [.agg (szV ((chosenZ ppem L).getD zS)), .bool (chosenZ ppem L).isSome]) (c := chosen5_c.code) (rs := chosen5_c.results) ?_
  · obtain ⟨u, st', h1, ⟨l, rfl⟩, rfl⟩ := main
    exact ⟨l, h1⟩
  · unfold chosen5_c
    dsimp only
    obtain ⟨N, hN⟩ : ∃ N, N = os.length := ⟨_, rfl⟩
    obtain ⟨A, hA⟩ : ∃ A, A = os ++ [some (AObj.cells true (szV zS))] := ⟨_, rfl⟩
    have alA : (few os).alloc (.cells true [.int .i64 0, .int .i64 0, .int .i64 0, .int .i64 0, .int .i64 0]) = some (N, few A) := by rw [hA, hN]; exact few_alloc os _
    have eA : A.length = N + 1 := by rw [hA, hN]; simp
    have aA : (A[N]?).join = some (.cells true (szV zS)) := by rw [hA, hN]; simp
    by_cases hL0 : L = []
    · have st0 : storeV (few A) 5 (.ptr (some (N, 0))) (some [.int .i64 0, .int .i64 0, .int .i64 0, .int .i64 0, .int .i64 0]) = some (V.undef, few A) := by rw [hA, hN]; exact storeNew rfl rfl
      have ld0 : loadV (few A) true 5 (.ptr (some (N, 0))) = some (.agg (szV zS)) := loadAll aA rfl
      have hv : elS 5 q L.length = .slice none 0 0 0 true := by rw [hL0]; rfl
      rw [hv]
      simp (disch := omega) [alA, st0, resE_cell, ld0]
      refine ⟨⟨_, by rw [hA]⟩, ?_⟩
      simp [chosenZ, hL0]
    · obtain ⟨n, hn⟩ : ∃ n, n = L.length := ⟨_, rfl⟩
      have hn0 : 0 < n := by rw [hn]; exact List.length_pos_iff.2 hL0
      obtain ⟨own, hq⟩ := h hL0
      have hv : elS 5 q L.length = .slice (some (q, 0)) 5 n n false := by rw [← hn]; exact if_neg (by omega)
      rw [hv]
      have hql := join_lt hq
      have keepA : ∀ i, i < N → (A[i]?).join = (os[i]?).join := fun i hi => by rw [hA]; exact join_app (by omega)
      have ldk : ∀ (Y : List (Option AObj)) (k : Nat) (a : Sz), (∀ i, i < N → (Y[i]?).join = (os[i]?).join) → L[k]? = some a → loadV (few Y) true 5 (.ptr (some (q, k * 5))) = some (.agg (szV a)) := fun Y k a hY ha => el_load szV_len (by rw [hY q (by omega)]; exact hq) ha
      obtain ⟨a0, ha0⟩ : ∃ a, L[0]? = some a := ⟨_, List.getElem?_eq_getElem (by omega)⟩
      have ld0 := ldk A 0 a0 keepA ha0
      rw [Nat.zero_mul] at ld0
      have ix0 : idxAddrV (.slice 5) (.slice (some (q, 0)) 5 n n false) (some 0) = some (.ptr (some (q, 0))) := by
        rw [idxAddr_slice (by omega)]
      obtain ⟨B0, hB0⟩ : ∃ B, B = A ++ [some (AObj.cells true (szV zS))] := ⟨_, rfl⟩
      have alB : (few A).alloc (.cells true [.int .i64 0, .int .i64 0, .int .i64 0, .int .i64 0, .int .i64 0]) = some (N + 1, few B0) := by rw [hB0, ← eA]; exact few_alloc A _
      obtain ⟨B, hB⟩ : ∃ B, B = A ++ [some (AObj.cells true (szV a0))] := ⟨_, rfl⟩
      have stB : storeV (few B0) 5 (.ptr (some (N + 1, 0))) (some (szV a0)) = some (V.undef, few B) := by rw [hB0, hB, ← eA]; exact storeNew rfl rfl
      have sl1 : sliceOp (.slice 5) (.slice (some (q, 0)) 5 n n false) (some (.int .i64 1)) none none = some (.slice (some (q, 5)) 5 (n - 1) (n - 1) false) := by
        rw [slice_loI (by omega) (by omega), shiftA_some]
        rfl
      have eB : B.length = N + 2 := by rw [hB]; simp [eA]
      have aB : (B[N + 1]?).join = some (.cells true (szV a0)) := by rw [hB, ← eA]; simp
      have aBN : (B[N]?).join = some (.cells true (szV zS)) := by rw [hB, join_app (by omega)]; exact aA
      have kB : ∀ i, i < N → (B[i]?).join = (os[i]?).join := fun i hi => by rw [hB, join_app (by omega), keepA i hi]
      obtain ⟨m, hm⟩ : ∃ m, m = n - 1 := ⟨_, rfl⟩
      rw [← hm] at sl1
      have sc : ∀ a : Sz, (V.agg (szV a)).cells = some (szV a) := fun a => rfl
      simp (disch := omega) [alA, ix0, ld0, alB, sc, stB, dlt_t, dlt_f, dle_t, dle_f, dltn_t, dltn_f, dlen_t, dlen_f, deq_t, deq_f, deqn_t, deqn_f, sl1]
      refine wp_loop (fun k s st => ∃ i Y b, i + k = m ∧ st = few Y ∧ ((∀ j, j < N → (Y[j]?).join = (os[j]?).join) ∧ N + 2 ≤ Y.length ∧ (Y[N]?).join = some (.cells true (szV zS)) ∧ (Y[N + 1]?).join = some (.cells true (szV b)) ∧ L[bestI ppem (L.map (·.ppem)) i]? = some b) ∧
        s (.o .h) = .int .i64 ppem ∧ s (.i (.o .h)) = .ptr (some (N, 0)) ∧ s (.i (.i .h)) = .ptr (some (N + 1, 0)) ∧ s (.i (.i (.o (.o .h)))) = .slice (some (q, 5)) 5 m m false ∧ s (.o (.o (.i (.o .h)))) = .int .i64 (m : Int) ∧ s (.i (.o (.i (.o .h)))) = .int .i64 (i : Int)) m ?_ (by omega) ?_
      · refine ⟨0, B, a0, by omega, rfl, ⟨kB, by omega, aBN, aB, ha0⟩, ?_, ?_, ?_, ?_, ?_, ?_⟩ <;> simp
      · rintro k s st ⟨i, Y, b, hk, rfl, ⟨hY, hYl, hYN, hYb, hb⟩, z1, z2, z3, z4, z5, z6⟩
        cases k with
        | zero =>
          have him : i = m := by omega
          subst him
          have ldb : loadV (few Y) true 5 (.ptr (some (N + 1, 0))) = some (.agg (szV b)) := loadAll hYb rfl
          have stN : storeV (few Y) 5 (.ptr (some (N, 0))) (some (szV b)) = some (V.undef, few (Y.set N (some (.cells true (szV b))))) := storeAll (k := 5) hYN rfl rfl
          have ldN : loadV (few (Y.set N (some (.cells true (szV b))))) true 5 (.ptr (some (N, 0))) = some (.agg (szV b)) := loadAll (own := true) (by rw [join_set_same (by omega)]) rfl
          simp (disch := omega) [z1, z2, z3, z4, z5, z6, dlt_t, dlt_f, dle_t, dle_f, dltn_t, dltn_f, dlen_t, dlen_f, deq_t, deq_f, deqn_t, deqn_f, ldb, sc, stN, resE_cell, ldN]
          have hch : chosenZ ppem L = some b := by unfold chosenZ; rw [if_neg hL0, show L.length - 1 = i from by omega]; exact hb
          refine ⟨⟨(Y.set N (some (.cells true (szV b)))).drop N, ?_⟩, ?_⟩
          · congr 1
            refine few_split hN (fun j hj => ?_) (by rw [List.length_set]; omega)
            rw [join_set (by omega)]; exact hY j hj
          · rw [hch]; exact ⟨rfl, rfl⟩
        | succ k =>
          have him : i < m := by omega
          obtain ⟨x, hxL⟩ : ∃ x, L[i + 1]? = some x := ⟨_, List.getElem?_eq_getElem (by omega)⟩
          have lds := ldk Y (i + 1) x hY hxL
          rw [show (i + 1) * 5 = 5 + i * 5 from by omega] at lds
          obtain ⟨y0, hy0⟩ : ∃ y, y = Y.length := ⟨_, rfl⟩
          obtain ⟨Y0, hY0⟩ : ∃ Z, Z = Y ++ [some (AObj.cells true (szV zS))] := ⟨_, rfl⟩
          have alY : (few Y).alloc (.cells true [.int .i64 0, .int .i64 0, .int .i64 0, .int .i64 0, .int .i64 0]) = some (y0, few Y0) := by rw [hY0, hy0]; exact few_alloc Y _
          obtain ⟨Y1, hY1⟩ : ∃ Z, Z = Y ++ [some (AObj.cells true (szV x))] := ⟨_, rfl⟩
          have stY : storeV (few Y0) 5 (.ptr (some (y0, 0))) (some (szV x)) = some (V.undef, few Y1) := by rw [hY0, hY1, hy0]; exact storeNew rfl rfl
          have a1 : (Y1[y0]?).join = some (.cells true (szV x)) := by rw [hY1, hy0]; simp
          have a2 : (Y1[N + 1]?).join = some (.cells true (szV b)) := by rw [hY1, join_app (by omega)]; exact hYb
          have a3 : (Y1[N]?).join = some (.cells true (szV zS)) := by rw [hY1, join_app (by omega)]; exact hYN
          have k1 : ∀ j, j < N → (Y1[j]?).join = (os[j]?).join := fun j hj => by rw [hY1, join_app (by omega)]; exact hY j hj
          have e1 : Y1.length = y0 + 1 := by rw [hY1, hy0]; simp
          have l1 : loadV (few Y1) false 1 (.ptr (some (y0, 4))) = some (.int .i64 (x.ppem : Int)) := (load_few a1).trans rfl
          have l2 : loadV (few Y1) false 1 (.ptr (some (N + 1, 4))) = some (.int .i64 (b.ppem : Int)) := (load_few a2).trans rfl
          have lds2 : loadV (few Y1) true 5 (.ptr (some (y0, 0))) = some (.agg (szV x)) := loadAll a1 rfl
          obtain ⟨Y2, hY2⟩ : ∃ Z, Z = Y1.set (N + 1) (some (.cells true (szV x))) := ⟨_, rfl⟩
          have stb : storeV (few Y1) 5 (.ptr (some (N + 1, 0))) (some (szV x)) = some (V.undef, few Y2) := by rw [hY2]; exact storeAll (k := 5) a2 rfl rfl
          have hst : bestI ppem (L.map (·.ppem)) (i + 1) = if nearN ppem b.ppem x.ppem then i + 1 else bestI ppem (L.map (·.ppem)) i := by
            show (if nearN ppem ((L.map (·.ppem)).getD (bestI ppem (L.map (·.ppem)) i) 0) ((L.map (·.ppem)).getD (i + 1) 0) then i + 1 else bestI ppem (L.map (·.ppem)) i) = _
            rw [ppem_at hb, ppem_at hxL]
          have fyes : nearN ppem b.ppem x.ppem = true → ((∀ j, j < N → (Y2[j]?).join = (os[j]?).join) ∧ N + 2 ≤ Y2.length ∧ (Y2[N]?).join = some (.cells true (szV zS)) ∧ (Y2[N + 1]?).join = some (.cells true (szV x)) ∧ L[bestI ppem (L.map (·.ppem)) (i + 1)]? = some x) := fun h =>
            ⟨fun j hj => by rw [hY2, join_set (by omega)]; exact k1 j hj, by rw [hY2, List.length_set]; omega, by rw [hY2, join_set (by omega)]; exact a3, by rw [hY2, join_set_same (by omega)], by rw [hst, h]; exact hxL⟩
          have fno : nearN ppem b.ppem x.ppem = false → ((∀ j, j < N → (Y1[j]?).join = (os[j]?).join) ∧ N + 2 ≤ Y1.length ∧ (Y1[N]?).join = some (.cells true (szV zS)) ∧ (Y1[N + 1]?).join = some (.cells true (szV b)) ∧ L[bestI ppem (L.map (·.ppem)) (i + 1)]? = some b) := fun h =>
            ⟨k1, by omega, a3, a2, by rw [hst, h]; exact hb⟩
          obtain ⟨xp, hxp⟩ : ∃ p, p = x.ppem := ⟨_, rfl⟩
          obtain ⟨bp, hbp⟩ : ∃ p, p = b.ppem := ⟨_, rfl⟩
          rw [← hxp] at l1 fyes fno
          rw [← hbp] at l2 fyes fno
          by_cases c1 : ppem ≤ (xp : Int)
          · by_cases c2 : (bp : Int) < ppem
            · simp (disch := omega) [z1, z2, z3, z4, z5, z6, him, dlt_t, dlt_f, dle_t, dle_f, dltn_t, dltn_f, dlen_t, dlen_f, deq_t, deq_f, deqn_t, deqn_f, natOf_int, idxAddr_slice, lds, alY, sc, stY, l1, l2, lds2, stb, wrap_i]
              obtain ⟨f1, f2, f3, f4, f5⟩ := fyes (by simp [nearN, c1, c2])
              exact ⟨k, by omega, i + 1, by omega, Y2, rfl, ⟨f1, f2, f3, x, f4, f5⟩, by omega⟩
            · by_cases c3 : xp < bp
              · simp (disch := omega) [z1, z2, z3, z4, z5, z6, him, dlt_t, dlt_f, dle_t, dle_f, dltn_t, dltn_f, dlen_t, dlen_f, deq_t, deq_f, deqn_t, deqn_f, natOf_int, idxAddr_slice, lds, alY, sc, stY, l1, l2, lds2, stb, wrap_i]
                obtain ⟨f1, f2, f3, f4, f5⟩ := fyes (by simp [nearN, c1, c2, c3])
                exact ⟨k, by omega, i + 1, by omega, Y2, rfl, ⟨f1, f2, f3, x, f4, f5⟩, by omega⟩
              · simp (disch := omega) [z1, z2, z3, z4, z5, z6, him, dlt_t, dlt_f, dle_t, dle_f, dltn_t, dltn_f, dlen_t, dlen_f, deq_t, deq_f, deqn_t, deqn_f, natOf_int, idxAddr_slice, lds, alY, sc, stY, l1, l2, lds2, stb, wrap_i]
                obtain ⟨f1, f2, f3, f4, f5⟩ := fno (by simp [nearN, c1, c2, c3])
                exact ⟨k, by omega, i + 1, by omega, Y1, rfl, ⟨f1, f2, f3, b, f4, f5⟩, by omega⟩
          · by_cases c2 : (bp : Int) < ppem
            · by_cases c4 : bp < xp
              · simp (disch := omega) [z1, z2, z3, z4, z5, z6, him, dlt_t, dlt_f, dle_t, dle_f, dltn_t, dltn_f, dlen_t, dlen_f, deq_t, deq_f, deqn_t, deqn_f, natOf_int, idxAddr_slice, lds, alY, sc, stY, l1, l2, lds2, stb, wrap_i]
                obtain ⟨f1, f2, f3, f4, f5⟩ := fyes (by simp [nearN, c1, c2, c4])
                exact ⟨k, by omega, i + 1, by omega, Y2, rfl, ⟨f1, f2, f3, x, f4, f5⟩, by omega⟩
              · simp (disch := omega) [z1, z2, z3, z4, z5, z6, him, dlt_t, dlt_f, dle_t, dle_f, dltn_t, dltn_f, dlen_t, dlen_f, deq_t, deq_f, deqn_t, deqn_f, natOf_int, idxAddr_slice, lds, alY, sc, stY, l1, l2, lds2, stb, wrap_i]
                obtain ⟨f1, f2, f3, f4, f5⟩ := fno (by simp [nearN, c1, c2, c4])
                exact ⟨k, by omega, i + 1, by omega, Y1, rfl, ⟨f1, f2, f3, b, f4, f5⟩, by omega⟩
            · simp (disch := omega) [z1, z2, z3, z4, z5, z6, him, dlt_t, dlt_f, dle_t, dle_f, dltn_t, dltn_f, dlen_t, dlen_f, deq_t, deq_f, deqn_t, deqn_f, natOf_int, idxAddr_slice, lds, alY, sc, stY, l1, l2, lds2, stb, wrap_i]
              obtain ⟨f1, f2, f3, f4, f5⟩ := fno (by simp [nearN, c1, c2])
              exact ⟨k, by omega, i + 1, by omega, Y1, rfl, ⟨f1, f2, f3, b, f4, f5⟩, by omega⟩
theorem ChosenZF.code {base : CallT} {g lf : Nat} (hlf : 70 ≤ lf) : ChosenZF (Vabs.withF base g lf chosen5_c) g := fun os q L p a b => by
  rw [withF_same]; exact ChosenZ_run hlf a b

end Go.Vabs.Cd

namespace Go.Vabs
set_option linter.unusedVariables false
noncomputable section
/-- Objects X, and l behind them. -/
def tl (X l : List (Option AObj)) : St := few (X ++ l)
def storeT (X l : List (Option AObj)) (n k o : Nat) (vs : List V) : Option (List V) → Option (V × St)
  | some cs => if vs.length = n then (match splice o vs cs with | some r => some (V.undef, tl X (l.set k (some (.cells true r)))) | none => none) else none
  | none => none
def growT (X l : List (Option AObj)) (e bytes k n m : Nat) (new : List V) : Option (List V) → Option (V × St)
  | some cs => if (2 * (n + (m + 1)) + 1024) * bytes ≤ 281474976710656 ∧ new.length = (m + 1) * e ∧ n * e = cs.length then
      some (.slice (some (X.length + l.length, 0)) e (n + (m + 1)) (n + (m + 1)) false, tl X (l.set k none ++ [some (.cells true (cs ++ new))])) else none
  | none => none
end
section
variable {X l : List (Option AObj)}
theorem tl_of {X : List (Option AObj)} : few X = tl X [] := by unfold tl; rw [List.append_nil]
theorem tl_eq {X l : List (Option AObj)} : tl X l = few (X ++ l) := rfl
theorem tl_next : (tl X l).next = X.length + l.length := by rw [tl_eq, few_next, List.length_append]
theorem tl_alloc {o : AObj} : (tl X l).alloc o = some (X.length + l.length, tl X (l ++ [some o])) := by
  rw [tl_eq, few_alloc, List.length_append, List.append_assoc]; rfl
theorem tl_at {k : Nat} : ((X ++ l)[X.length + k]?).join = (l[k]?).join := by
  rw [List.getElem?_append_right (Nat.le_add_right ..), Nat.add_sub_cancel_left]
theorem tl_cells {k : Nat} : cellsAt (X ++ l) (X.length + k) = cellsAt l k := by rw [cellsAt_eq, cellsAt_eq, tl_at]
theorem tl_own {k : Nat} : ownAt (X ++ l) (X.length + k) = ownAt l k := by rw [ownAt_eq, ownAt_eq, tl_at]
theorem tl_load {a : Bool} {n k o : Nat} : loadV (tl X l) a n (.ptr (some (X.length + k, o))) = loadC a n o (cellsAt l k) := by
  rw [tl_eq, load_fewC, tl_cells]
theorem tl_load0 {a : Bool} {n o : Nat} : loadV (tl X l) a n (.ptr (some (X.length, o))) = loadC a n o (cellsAt l 0) := tl_load (k := 0)
theorem tl_store {n k o : Nat} {vs : List V} : storeV (tl X l) n (.ptr (some (X.length + k, o))) (some vs) = storeT X l n k o vs (ownAt l k) := by
  rw [tl_eq, store_fewC, tl_own]
  unfold storeC storeT
  cases ownAt l k with
  | none => rfl
  | some cs =>
    dsimp only
    cases splice o vs cs with
    | none => rfl
    | some r =>
      dsimp only
      rw [List.set_append_right _ _ (Nat.le_add_right ..), Nat.add_sub_cancel_left]
      rfl
theorem tl_store0 {n o : Nat} {vs : List V} : storeV (tl X l) n (.ptr (some (X.length, o))) (some vs) = storeT X l n 0 o vs (ownAt l 0) := tl_store (k := 0)
theorem storeT_some {n k o : Nat} {vs cs : List V} : storeT X l n k o vs (some cs) = if vs.length = n then (match splice o vs cs with | some r => some (V.undef, tl X (l.set k (some (.cells true r)))) | none => none) else none := rfl
theorem tl_first {m e n k o c : Nat} {f : Bool} : firstN (tl X l) e m (.slice (some (X.length + k, o)) e n c f) = firstC m e n o (cellsAt l k) := by
  rw [tl_eq, first_fewC, tl_cells]
theorem tl_grow_none {e e' bytes m : Nat} {f : Bool} {new : List V} : appendV (tl X l) e bytes (.slice none e' 0 0 f) (some (m + 1)) (some new) =
    if (2 * (m + 1) + 1024) * bytes ≤ 281474976710656 ∧ new.length = (m + 1) * e then some (.slice (some (X.length + l.length, 0)) e (m + 1) (m + 1) false, tl X (l ++ [some (.cells true new)])) else none := by
  rw [tl_eq, grow_none, List.length_append, List.append_assoc]; rfl
theorem tl_grow {e bytes k n m : Nat} {new : List V} : appendV (tl X l) e bytes (.slice (some (X.length + k, 0)) e n n false) (some (m + 1)) (some new) = growT X l e bytes k n m new (ownAt l k) := by
  rw [tl_eq, grow_some, tl_own]
  unfold growC growT
  cases ownAt l k with
  | none => rfl
  | some cs =>
    dsimp only
    rw [List.set_append_right _ _ (Nat.le_add_right ..), Nat.add_sub_cancel_left, List.length_append, List.append_assoc]
    rfl
/- in regions that draw their order -/
theorem tl_back {Y m : List (Option AObj)} : back (tl X l) (tl Y m) = tl Y m := rfl
theorem tl_back_few {Y : List (Option AObj)} : back (tl X l) (few Y) = few Y := rfl
theorem few_back_tl {Y : List (Option AObj)} : back (few Y) (tl X l) = tl X l := rfl
theorem tl_alloc_dir {rs ws : List Nat} {ps : List Past} {o : AObj} : (limited (.dir rs ws) ps (tl X l)).alloc o = some (X.length + l.length, back (limited (.dir rs ws) ps (tl X l)) (tl X (l ++ [some o]))) := by
  rw [tl_eq, alloc_dir, List.length_append, List.append_assoc]; rfl
theorem tl_store_d {i o n : Nat} {ps : List Past} {cs : List V} : storeV (limited (.dir [i] [i]) ps (tl X l)) n (.ptr (some (i, o))) (some cs) = backv (limited (.dir [i] [i]) ps (tl X l)) (storeV (tl X l) n (.ptr (some (i, o))) (some cs)) := store_d
end
/- bytes there -/
theorem tl_bytes {X l : List (Option AObj)} {v : V} {bs : List Nat} (h : bytesAt (few X) v = some bs) : bytesAt (tl X l) v = some bs := Sb.bytesAt_grow h fun i hi => Sb.join_app hi
end Go.Vabs

namespace Go.Vabs
set_option linter.unusedVariables false
/- WHAT A VALUE LEADS TO -/
def ids1 : V → List Nat
  | .agg l => l.flatMap idOf
  | v => idOf v
def ids2 : V → List Nat
  | .tuple l => l.flatMap ids1
  | v => ids1 v
def oids : AObj → List Nat
  | .cells _ cs => cs.flatMap idOf
  | .map _ es _ => es.flatMap fun e => idOf e.1 ++ ids1 e.2.1
inductive Rch (n : Nat) (s1 : St) (v0 : V) : Nat → Prop
  | root {i : Nat} : i ∈ ids2 v0 → n ≤ i → Rch n s1 v0 i
  | step {i j : Nat} {o : AObj} : Rch n s1 v0 j → s1.heap.get j = some o → i ∈ oids o → n ≤ i → Rch n s1 v0 i
noncomputable section
def rn (n : Nat) (σ : List Nat) (i : Nat) : Nat := if i < n then i else n + σ.idxOf i
def rn0 (n : Nat) (σ : List Nat) : V → V
  | .ptr (some (i, o)) => .ptr (some (rn n σ i, o))
  | .slice (some (i, o)) e k c f => .slice (some (rn n σ i, o)) e k c f
  | .map (some i) => .map (some (rn n σ i))
  | v => v
def rn1 (n : Nat) (σ : List Nat) : V → V
  | .agg l => .agg (l.map (rn0 n σ))
  | v => rn0 n σ v
def rn2 (n : Nat) (σ : List Nat) : V → V
  | .tuple l => .tuple (l.map (rn1 n σ))
  | v => rn1 n σ v
def rnO (n : Nat) (σ : List Nat) : AObj → AObj
  | .cells own cs => .cells own (cs.map (rn0 n σ))
  | .map own es c => .map own (es.map fun e => (rn0 n σ e.1, rn1 n σ e.2.1, e.2.2)) c
def V.leads : V → Bool
  | .ptr (some (i, o)) => true
  | .slice (some (i, o)) e k c f => Nat.ble k c
  | .map (some i) => true
  | v => v.flat
def ok1 : V → Bool
  | .agg l => l.all V.leads
  | v => v.leads
def ok2 : V → Bool
  | .tuple l => l.all ok1
  | v => ok1 v
def okO : AObj → Bool
  | .cells own cs => own && cs.all V.leads
  | .map own es _ => own && es.all fun e => e.1.leads && ok1 e.2.1
structure Canon (n : Nat) (s1 : St) (v0 : V) (σ : List Nat) : Prop where
  sorted : σ.Pairwise (· < ·)
  new : ∀ i ∈ σ, Rch n s1 v0 i
  root : ∀ i ∈ ids2 v0, i < n ∨ i ∈ σ
  step : ∀ j ∈ σ, ∃ o, s1.heap.get j = some o ∧ okO o = true ∧ ∀ i ∈ oids o, i < n ∨ i ∈ σ
  ok : ok2 v0 = true
def objsOf (n : Nat) (s1 : St) (σ : List Nat) : List AObj := σ.map fun j => match s1.heap.get j with | some o => rnO n σ o | none => .cells true []
end
theorem Rch.le {n : Nat} {s1 : St} {v0 : V} {i : Nat} (h : Rch n s1 v0 i) : n ≤ i := by cases h <;> assumption
theorem Canon.mem {n : Nat} {s1 : St} {v0 : V} {σ : List Nat} (h : Canon n s1 v0 σ) (i : Nat) : i ∈ σ ↔ Rch n s1 v0 i := by
  refine ⟨h.new i, fun hr => ?_⟩
  induction hr with
  | root h1 h2 => exact (h.root _ h1).resolve_left (by omega)
  | step h1 h2 h3 h4 ih =>
    obtain ⟨o, k1, _, k3⟩ := h.step _ ih
    rw [h2] at k1
    cases k1
    exact (k3 _ h3).resolve_left (by omega)
theorem sorted_ext : ∀ {l m : List Nat}, l.Pairwise (· < ·) → m.Pairwise (· < ·) → (∀ i, i ∈ l ↔ i ∈ m) → l = m
  | [], [], _, _, _ => rfl
  | [], b :: m, _, _, h => by have := (h b).2 (List.mem_cons_self ..); cases this
  | a :: l, [], _, _, h => by have := (h a).1 (List.mem_cons_self ..); cases this
  | a :: l, b :: m, h1, h2, h => by
    rw [List.pairwise_cons] at h1 h2
    have hab : a = b := by
      have ha := (h a).1 (List.mem_cons_self ..)
      have hb := (h b).2 (List.mem_cons_self ..)
      rw [List.mem_cons] at ha hb
      rcases ha with ha | ha
      · exact ha
      · rcases hb with hb | hb
        · exact hb.symm
        · have := h1.1 b hb
          have := h2.1 a ha
          omega
    subst hab
    rw [sorted_ext h1.2 h2.2 fun i => ?_]
    constructor
    · intro hi
      have := (h i).1 (List.mem_cons_of_mem _ hi)
      rw [List.mem_cons] at this
      rcases this with rfl | this
      · have := h1.1 i hi; omega
      · exact this
    · intro hi
      have := (h i).2 (List.mem_cons_of_mem _ hi)
      rw [List.mem_cons] at this
      rcases this with rfl | this
      · have := h2.1 i hi; omega
      · exact this
theorem Canon.only {n : Nat} {s1 : St} {v0 : V} {σ σ' : List Nat} (h : Canon n s1 v0 σ) (h' : Canon n s1 v0 σ') : σ = σ' :=
  sorted_ext h.sorted h'.sorted fun i => by rw [h.mem, h'.mem]
theorem ren_of {n : Nat} {σ : List Nat} {i : Nat} (h : i < n ∨ i ∈ σ) (hs : ∀ i ∈ σ, n ≤ i) : ren n σ i (rn n σ i) := by
  by_cases hi : i < n
  · exact .inl ⟨hi, if_pos hi⟩
  · have hm := h.resolve_left hi
    refine .inr ⟨σ.idxOf i, ?_, if_neg hi⟩
    have hlt := List.idxOf_lt_length_of_mem hm
    rw [List.getElem?_eq_getElem hlt, List.getElem_idxOf hlt]
section
variable {n : Nat} {σ : List Nat} (hs : ∀ i ∈ σ, n ≤ i)
include hs
theorem Ren0_of {v : V} (h : ∀ i ∈ idOf v, i < n ∨ i ∈ σ) (hl : v.leads = true) : Ren0 (ren n σ) v (rn0 n σ v) := by
  cases v with
  | ptr a =>
    cases a with
    | none => exact ⟨rfl, rfl⟩
    | some p => exact ⟨ren_of (h p.1 (List.mem_cons_self ..)) hs, rfl⟩
  | slice a e k c f =>
    cases a with
    | none => exact ⟨rfl, rfl⟩
    | some p => exact ⟨ren_of (h p.1 (List.mem_cons_self ..)) hs, rfl, rfl, rfl, Nat.le_of_ble_eq_true hl, Nat.le_refl _, fun hf => ⟨hf, rfl⟩⟩
  | map a =>
    cases a with
    | none => exact ⟨rfl, rfl⟩
    | some p => exact ren_of (h p (List.mem_cons_self ..)) hs
  | bool b => exact ⟨rfl, rfl⟩
  | int k z => exact ⟨rfl, rfl⟩
  | str z => exact ⟨rfl, rfl⟩
  | nilFunc => exact ⟨rfl, rfl⟩
  | _ => exact absurd hl (by simp [V.leads, V.flat])
theorem Ren0s_of : ∀ {l : List V}, (∀ i ∈ l.flatMap idOf, i < n ∨ i ∈ σ) → l.all V.leads = true → All2 (Ren0 (ren n σ)) l (l.map (rn0 n σ))
  | [], _, _ => trivial
  | v :: l, h, hl => by
    rw [List.all_cons, Bool.and_eq_true] at hl
    rw [List.flatMap_cons] at h
    exact ⟨Ren0_of hs (fun i hi => h i (List.mem_append_left _ hi)) hl.1, Ren0s_of (fun i hi => h i (List.mem_append_right _ hi)) hl.2⟩
theorem Ren1_of {v : V} (h : ∀ i ∈ ids1 v, i < n ∨ i ∈ σ) (hl : ok1 v = true) : Ren1 (ren n σ) v (rn1 n σ v) := by
  cases v with
  | agg l => exact Ren0s_of hs h hl
  | ptr a => have := Ren0_of hs (v := .ptr a) h hl; cases a <;> exact this
  | slice a e k c f => have := Ren0_of hs (v := .slice a e k c f) h hl; cases a <;> exact this
  | map a => have := Ren0_of hs (v := .map a) h hl; cases a <;> exact this
  | bool b => exact ⟨rfl, rfl⟩
  | int k z => exact ⟨rfl, rfl⟩
  | str z => exact ⟨rfl, rfl⟩
  | nilFunc => exact ⟨rfl, rfl⟩
  | _ => exact absurd hl (by simp [ok1, V.leads, V.flat])
theorem Ren1s_of : ∀ {l : List V}, (∀ i ∈ l.flatMap ids1, i < n ∨ i ∈ σ) → l.all ok1 = true → All2 (Ren1 (ren n σ)) l (l.map (rn1 n σ))
  | [], _, _ => trivial
  | v :: l, h, hl => by
    rw [List.all_cons, Bool.and_eq_true] at hl
    rw [List.flatMap_cons] at h
    exact ⟨Ren1_of hs (fun i hi => h i (List.mem_append_left _ hi)) hl.1, Ren1s_of (fun i hi => h i (List.mem_append_right _ hi)) hl.2⟩
theorem Ren2_of {v : V} (h : ∀ i ∈ ids2 v, i < n ∨ i ∈ σ) (hl : ok2 v = true) : Ren (ren n σ) v (rn2 n σ v) := by
  cases v with
  | tuple l => exact Ren1s_of hs h hl
  | agg l => exact Ren1_of hs (v := .agg l) h hl
  | ptr a => exact Ren1_of hs (v := .ptr a) h hl
  | slice a e k c f => exact Ren1_of hs (v := .slice a e k c f) h hl
  | map a => exact Ren1_of hs (v := .map a) h hl
  | bool b => exact ⟨rfl, rfl⟩
  | int k z => exact ⟨rfl, rfl⟩
  | str z => exact ⟨rfl, rfl⟩
  | nilFunc => exact ⟨rfl, rfl⟩
  | _ => exact absurd hl (by simp [ok2, ok1, V.leads, V.flat])
theorem RenE_of : ∀ {es : List (V × V × Nat)}, (∀ i ∈ es.flatMap (fun e => idOf e.1 ++ ids1 e.2.1), i < n ∨ i ∈ σ) → (es.all fun e => e.1.leads && ok1 e.2.1) = true →
    All2 (fun (y y' : V × V × Nat) => Ren0 (ren n σ) y.1 y'.1 ∧ Ren1 (ren n σ) y.2.1 y'.2.1 ∧ y.2.2 = y'.2.2) es (es.map fun e => (rn0 n σ e.1, rn1 n σ e.2.1, e.2.2))
  | [], _, _ => trivial
  | e :: es, h, hl => by
    rw [List.flatMap_cons] at h
    rw [List.all_cons, Bool.and_eq_true, Bool.and_eq_true] at hl
    exact ⟨⟨Ren0_of hs (fun i hi => h i (List.mem_append_left _ (List.mem_append_left _ hi))) hl.1.1, Ren1_of hs (fun i hi => h i (List.mem_append_left _ (List.mem_append_right _ hi))) hl.1.2, rfl⟩, RenE_of (fun i hi => h i (List.mem_append_right _ hi)) hl.2⟩
theorem RenO_of {o : AObj} (h : ∀ i ∈ oids o, i < n ∨ i ∈ σ) (hl : okO o = true) : RenO (ren n σ) o (rnO n σ o) := by
  cases o with
  | cells own cs =>
    have hl : (own && cs.all V.leads) = true := hl
    rw [Bool.and_eq_true] at hl
    obtain ⟨rfl, hl⟩ := hl
    refine ⟨by rw [List.length_map]; exact Nat.le_refl _, fun k v hv => ?_⟩
    rw [List.getElem?_map] at hv
    obtain ⟨u, hu, rfl⟩ := Option.map_eq_some_iff.1 hv
    have hm := List.mem_of_getElem? hu
    exact ⟨u, hu, Ren0_of hs (fun i hi => h i (List.mem_flatMap.2 ⟨u, hm, hi⟩)) (List.all_eq_true.1 hl u hm)⟩
  | map own es c =>
    have hl : (own && es.all fun e => e.1.leads && ok1 e.2.1) = true := hl
    rw [Bool.and_eq_true] at hl
    obtain ⟨rfl, hl⟩ := hl
    exact ⟨rfl, RenE_of hs h hl⟩
end
theorem Canon.left {n : Nat} {s0 s1 : St} {v0 : V} {σ : List Nat} (hn : s0.next = n) (h : Canon n s1 v0 σ) : Left (wayId n) n s0 s1 v0 (objsOf n s1 σ) σ (rn2 n σ v0) := by
  have hs : ∀ i ∈ σ, n ≤ i := fun i hi => (h.new i hi).le
  refine Left.ren ?_ (Ren2_of hs h.root h.ok) (by unfold objsOf; rw [List.length_map]) (fun j k o h1 h2 => ?_) (fun j j' k h1 h2 => ?_)
  · rintro rfl
    have := h.ok
    simp [ok2, ok1, V.leads, V.flat] at this
  · have hk := List.mem_of_getElem? h1
    obtain ⟨o0, g1, g2, g3⟩ := h.step k hk
    refine ⟨by rw [hn]; exact hs k hk, o0, g1, ?_⟩
    have : o = rnO n σ o0 := by
      unfold objsOf at h2
      rw [List.getElem?_map, h1] at h2
      have h2 : some (match s1.heap.get k with | some o => rnO n σ o | none => .cells true []) = some o := h2
      rw [g1] at h2
      exact (Option.some.inj h2).symm
    rw [this]
    exact RenO_of hs g3 g2
  · obtain ⟨hj, e1⟩ := List.getElem?_eq_some_iff.1 h1
    obtain ⟨hj', e2⟩ := List.getElem?_eq_some_iff.1 h2
    have hp := List.pairwise_iff_getElem.1 h.sorted
    rcases Nat.lt_trichotomy j j' with hl | hl | hl
    · have := hp j j' hj hj' hl; omega
    · exact hl
    · have := hp j' j hj' hj hl; omega
/- THE LAW -/
/-- Y shows all that st shows. -/
def covers (st : St) (Y : List (Option AObj)) : Prop := Y.length = st.next ∧ ∀ i o, st.look i = some o → (few Y).look i = some o
def autoP (base : CallT) (lf : Nat) (fn : AFunc) (args : List V) (st : St) (a : List AObj × V) : Prop :=
  ∀ Y, covers st Y → ∃ s1 v0 σ, enterF base lf args (few Y) fn = some (v0, s1) ∧ Canon st.next s1 v0 σ ∧ a = (objsOf st.next s1 σ, rn2 st.next σ v0)
open Classical in
noncomputable def autoRd (base : CallT) (lf : Nat) (fn : AFunc) : List V → St → Option Ans := fun args st =>
  if h : goods st.next args = true ∧ ∃ a, autoP base lf fn args st a then some (h.2.choose.1, fun _ => h.2.choose.2) else none
theorem covers_frozen {st : St} : covers st (frozen st) := ⟨frozen_len, fun i o h => by rw [frozen_look]; exact h⟩
theorem autoP_only {base : CallT} {lf : Nat} {fn : AFunc} {args : List V} {st : St} {a b : List AObj × V} (ha : autoP base lf fn args st a) (hb : autoP base lf fn args st b) : a = b := by
  obtain ⟨s1, v0, σ, h1, h2, h3⟩ := ha _ covers_frozen
  obtain ⟨s1', v0', σ', k1, k2, k3⟩ := hb _ covers_frozen
  rw [h1] at k1
  cases k1
  obtain rfl := h2.only k2
  rw [h3, k3]
theorem autoRd_of {base : CallT} {lf : Nat} {fn : AFunc} {args : List V} {st : St} {a : List AObj × V} (hg : goods st.next args = true) (ha : autoP base lf fn args st a) : autoRd base lf fn args st = some (a.1, fun _ => a.2) := by
  unfold autoRd
  have h : goods st.next args = true ∧ ∃ a, autoP base lf fn args st a := ⟨hg, a, ha⟩
  rw [dif_pos h, autoP_only h.2.choose_spec ha]
theorem autoRd_some {base : CallT} {lf : Nat} {fn : AFunc} {args : List V} {st : St} {r : Ans} (h : autoRd base lf fn args st = some r) : goods st.next args = true ∧ ∃ a, autoP base lf fn args st a ∧ r = (a.1, fun _ => a.2) := by
  unfold autoRd at h
  split at h
  · rename_i hh
    exact ⟨hh.1, _, hh.2.choose_spec, (Option.some.inj h).symm⟩
  · cases h
theorem autoRd_reads {base : CallT} {lf : Nat} {fn : AFunc} : Reads (autoRd base lf fn) := by
  intro args s s' g r h he
  obtain ⟨hg, a, ha, rfl⟩ := autoRd_some h
  refine autoRd_of (by rw [he.next]; exact hg) fun Y hY => ?_
  obtain ⟨s1, v0, σ, h1, h2, h3⟩ := ha Y ⟨by rw [hY.1, he.next], fun i o ho => hY.2 i o (look_ext he ho)⟩
  rw [he.next]
  exact ⟨s1, v0, σ, h1, h2, h3⟩
theorem Sound.auto {P : Program} {call : CallT} (hmix : P.follows .mixedOrders = true) (h : Sound P call) {g : Nat} {fn : AFunc} (lf : Nat) (hc : compF P g = some fn) : Sound P (Vabs.withL call g (lawOf (autoRd call lf fn))) := by
  refine h.withL (h.withF hmix lf hc) autoRd_reads fun args st os f hx => ?_
  obtain ⟨hg, a, ha, hr⟩ := autoRd_some hx
  cases hr
  obtain ⟨s1, v0, σ, h1, h2, h3⟩ := ha _ covers_frozen
  refine ⟨wayId st.next, args, few (frozen st), s1, v0, σ, ?_, seen_frozen hg, ?_⟩
  · rw [withF_same]; exact h1
  · rw [h3]
    exact h2.left (by rw [few_next, frozen_len])
/-- A call by its law. -/
theorem auto_call {base : CallT} {lf g : Nat} {fn : AFunc} {args : List V} {os : List (Option AObj)} {new : List AObj} {v : V} (hg : goods os.length args = true) (ha : autoP base lf fn args (few os) (new, v)) : Vabs.withL base g (lawOf (autoRd base lf fn)) g args (few os) = some (v, few (os ++ new.map some)) := by
  rw [withL_same]
  show lawOut (autoRd base lf fn args (few os)) (few os) = _
  rw [autoRd_of (by rw [few_next]; exact hg) ha]
  exact lawOut_few
theorem canon_flat {n : Nat} {s1 : St} {v0 : V} (h : ids2 v0 = []) (hk : ok2 v0 = true) : Canon n s1 v0 [] := ⟨List.Pairwise.nil, fun i hi => (by cases hi), fun i hi => (by rw [h] at hi; cases hi), fun j hj => (by cases hj), hk⟩
theorem rn0_flat {n : Nat} {σ : List Nat} {v : V} (h : idOf v = []) : rn0 n σ v = v := by
  cases v with
  | ptr a => cases a with | none => rfl | some p => cases h
  | slice a e k c f => cases a with | none => rfl | some p => cases h
  | map a => cases a with | none => rfl | some p => cases h
  | _ => rfl
theorem rn0s_flat {n : Nat} {σ : List Nat} : ∀ {l : List V}, l.flatMap idOf = [] → l.map (rn0 n σ) = l
  | [], _ => rfl
  | v :: l, h => by
    rw [List.flatMap_cons, List.append_eq_nil_iff] at h
    rw [List.map_cons, rn0_flat h.1, rn0s_flat h.2]
theorem rn1_flat {n : Nat} {σ : List Nat} {v : V} (h : ids1 v = []) : rn1 n σ v = v := by
  cases v with
  | agg l => show V.agg _ = _; rw [rn0s_flat (l := l) h]
  | ptr a => exact rn0_flat (v := .ptr a) h
  | slice a e k c f => exact rn0_flat (v := .slice a e k c f) h
  | map a => exact rn0_flat (v := .map a) h
  | _ => rfl
theorem rn1s_flat {n : Nat} {σ : List Nat} : ∀ {l : List V}, l.flatMap ids1 = [] → l.map (rn1 n σ) = l
  | [], _ => rfl
  | v :: l, h => by
    rw [List.flatMap_cons, List.append_eq_nil_iff] at h
    rw [List.map_cons, rn1_flat h.1, rn1s_flat h.2]
theorem rn2_flat {n : Nat} {σ : List Nat} {v : V} (h : ids2 v = []) : rn2 n σ v = v := by
  cases v with
  | tuple l => show V.tuple _ = _; rw [rn1s_flat (l := l) h]
  | agg l => exact rn1_flat (v := .agg l) h
  | ptr a => exact rn1_flat (v := .ptr a) h
  | slice a e k c f => exact rn1_flat (v := .slice a e k c f) h
  | map a => exact rn1_flat (v := .map a) h
  | _ => rfl
/-- An answer that leads nowhere: nothing is left. -/
theorem auto_flat {base : CallT} {lf g : Nat} {fn : AFunc} {args : List V} {os : List (Option AObj)} {v : V} (hg : goods os.length args = true) (h0 : ids2 v = []) (hk : ok2 v = true)
    (h : ∀ Y, covers (few os) Y → ∃ s1, enterF base lf args (few Y) fn = some (v, s1)) : Vabs.withL base g (lawOf (autoRd base lf fn)) g args (few os) = some (v, few os) := by
  have := auto_call (base := base) (lf := lf) (g := g) (fn := fn) (args := args) (os := os) (new := []) (v := v) hg fun Y hY => by
    obtain ⟨s1, h1⟩ := h Y hY
    exact ⟨s1, v, [], h1, canon_flat h0 hk, by rw [rn2_flat h0]; rfl⟩
  rw [this, List.map_nil, List.append_nil]
theorem flat_ids {l : List V} (h : l.all V.flat = true) : l.flatMap idOf = [] := by
  rw [List.flatMap_eq_nil_iff]
  intro v hv
  have := List.all_eq_true.1 h v hv
  cases v with
  | ptr a => cases a with | none => rfl | some p => cases this
  | slice a e k c f => cases a with | none => rfl | some p => cases this
  | map a => cases a with | none => rfl | some p => cases this
  | _ => rfl
theorem flat_leads {l : List V} (h : l.all V.flat = true) : l.all V.leads = true := by
  rw [List.all_eq_true] at h ⊢
  intro v hv
  have := h v hv
  cases v with
  | ptr a => cases a with | none => rfl | some p => cases this
  | slice a e k c f => cases a with | none => rfl | some p => cases this
  | map a => cases a with | none => rfl | some p => cases this
  | _ => first | rfl | cases this
/-- An answer that leads to one new object of flat cells. -/
theorem auto_one {base : CallT} {lf g : Nat} {fn : AFunc} {args : List V} {os : List (Option AObj)} {cs : List V} {F : Nat → V} (hg : goods os.length args = true) (hcs : cs.all V.flat = true)
    (hF : ∀ p, ids2 (F p) = [p] ∧ ok2 (F p) = true ∧ ∀ n, n ≤ p → rn2 n [p] (F p) = F n)
    (h : ∀ Y, covers (few os) Y → ∃ p Y', enterF base lf args (few Y) fn = some (F p, few Y') ∧ os.length ≤ p ∧ (Y'[p]?).join = some (.cells true cs)) :
    Vabs.withL base g (lawOf (autoRd base lf fn)) g args (few os) = some (F os.length, few (os ++ [some (.cells true cs)])) := by
  refine auto_call (base := base) (lf := lf) (g := g) (fn := fn) (args := args) (os := os) (new := [.cells true cs]) (v := F os.length) hg fun Y hY => ?_
  obtain ⟨p, Y', h1, h2, h3⟩ := h Y hY
  obtain ⟨f1, f2, f3⟩ := hF p
  rw [few_next]
  have hget : (few Y').heap.get p = some (.cells true cs) := by rw [few_heap]; exact h3
  refine ⟨few Y', F p, [p], h1, ⟨by simp, fun i hi => ?_, fun i hi => ?_, fun j hj => ?_, f2⟩, ?_⟩
  · rw [List.mem_singleton.1 hi]
    exact .root (by rw [f1]; exact List.mem_singleton.2 rfl) h2
  · rw [f1] at hi; exact .inr hi
  · rw [List.mem_singleton.1 hj]
    refine ⟨_, hget, ?_, fun i hi => ?_⟩
    · show (true && cs.all V.leads) = true
      rw [flat_leads hcs]; rfl
    · have hi : i ∈ cs.flatMap idOf := hi
      rw [flat_ids hcs] at hi; cases hi
  · unfold objsOf
    rw [f3 _ h2, List.map_cons, hget, List.map_nil]
    show _ = ([rnO _ _ (.cells true cs)], _)
    unfold rnO
    dsimp only
    rw [rn0s_flat (flat_ids hcs)]
end Go.Vabs

namespace Go.Vabs.Vc
set_option linter.unusedVariables false
set_option linter.unusedSimpArgs false
set_option maxRecDepth 10000
attribute [local simp] wp_skip wp_ret wp_exit wp_reg wp_seq wp_cond wp_block thenQ_normal thenQ_ret thenQ_exit blockQ_normal blockQ_ret blockQ_exit wpCond_true wpCond_false wpOps_nil wpVal_some wpGuard_true wpGuard_false wpOps_guard wpOps_cons
  put_at put_no ev_c ev_slot posEq_h posEq_o posEq_i posEq_ho posEq_hi posEq_oh posEq_ih posEq_oi posEq_io sel_true sel_false
  okv_some step_mv step_call step_pick pickV_bool step_bin bin_add bin_sub bin_mul bin_eql bin_neq bin_lss bin_leq bin_gtr bin_geq bin_eqb bin_neb bin_eqs bin_nes step_un un_not un_neg step_len len_slice len_str len_const step_extract extractV nth step_convInt conv_int step_convStr step_slice step_idxAddr natOf_nat step_load step_index step_field step_fieldAddr step_build step_minmax
  step_alloc step_bslice bsliceV_some newV_some step_store step_append boolIs_b boolIs_t finQ_ret finQ_normal ressE_nil ressE_cons resE_tmp consO_some initE_nil initE_cons pos_0 pos_1 pos_2 pos_3 pos_4 pos_5 pos_6 pos_7 pos_8 plain_bool plain_int plain_str plain_ptr plain_slice plain_map plain_agg plain_func plain_nilFunc V.undef oneOf_one oneOf_two ble_self
open Go.Vabs.Pk Go.Vabs.Ph Go.Vabs.Sa Go.Vabs.Sb Go.Vabs.Sc Go.Vabs.Sd Go.Vabs.Se Go.Vabs.Sg Go.Vabs.Sh Go.Vabs.Sm Go.Vabs.Sn Go.Vabs.Sp Go.Vabs.Sr Go.Vabs.St Go.Vabs.Su Go.Vabs.L2 Go.Vabs.Na
attribute [local simp] step_nilchk nilchk_ptr step_box cells_int cells_bool cells_str cells_slice cells_ptr cells_agg fieldAddrV natOf_zero fill repN splice over newV step_appendZ
/- BYTES THAT ARE SEEN -/
def See (os : List (Option AObj)) (v : V) (bs : List Nat) : Prop := v.good os.length = true ∧ lookB (few os).look v = some bs
theorem See.good {os : List (Option AObj)} {v : V} {bs : List Nat} (h : See os v bs) : v.good os.length = true := h.1
theorem See.at {os : List (Option AObj)} {v : V} {bs : List Nat} (h : See os v bs) : bytesAt (few os) v = some bs := lookB_at h.2
theorem See.lt {os : List (Option AObj)} {v : V} {bs : List Nat} (h : See os v bs) : ∀ b ∈ bs, b < 256 := bytesAt_lt h.at
theorem See.keep {os os' : List (Option AObj)} {v : V} {bs : List Nat} (h : See os v bs) (he : ∀ i, i < os.length → (os'[i]?).join = (os[i]?).join) (hl : os.length ≤ os'.length) : See os' v bs :=
  ⟨V.good_le hl h.1, lookB_mono (sight_keep he hl) h.2⟩
theorem See.grow {os l : List (Option AObj)} {v : V} {bs : List Nat} (h : See os v bs) : See (os ++ l) v bs := h.keep (fun i hi => join_app hi) (by simp)
theorem See.tl {os l : List (Option AObj)} {v : V} {bs : List Nat} (h : See os v bs) : bytesAt (tl os l) v = some bs := h.grow.at
theorem See.cov {os Y : List (Option AObj)} {v : V} {bs : List Nat} (h : See os v bs) (hY : covers (few os) Y) : See Y v bs :=
  ⟨by rw [hY.1, few_next]; exact h.1, lookB_mono hY.2 h.2⟩
theorem See.own {os : List (Option AObj)} {p c : Nat} {bs : List Nat} {f : Bool} (h : (os[p]?).join = some (newBytes bs)) (hb : ∀ b ∈ bs, b < 256) (hc : bs.length ≤ c) : See os (.slice (some (p, 0)) 1 bs.length c f) bs := by
  have hp := join_lt h
  refine ⟨by simp [V.good]; exact hp, lookB_of (own := true) (cs := bytesV bs) (by rw [few_next]; exact hp) (by rw [few_get]; exact h) (flats_good (List.all_eq_true.2 bytesV_flat)) hc (by rw [bytesV_len]; omega) ?_ hb⟩
  rw [List.drop_zero, List.take_of_length_le (by rw [bytesV_len]; exact Nat.le_refl _)]
theorem See.sub {os : List (Option AObj)} {p o w c : Nat} {f own : Bool} {d : List Nat} (h : (os[p]?).join = some (.cells own (bytesV d))) (hd : ∀ b ∈ d, b < 256) (how : o + w ≤ d.length) (hc : w ≤ c) : See os (.slice (some (p, o)) 1 w c f) ((d.drop o).take w) := by
  have hp := join_lt h
  refine ⟨by simp [V.good]; exact hp, lookB_of (own := own) (cs := bytesV d) (by rw [few_next]; exact hp) (by rw [few_get]; exact h) (flats_good (List.all_eq_true.2 bytesV_flat)) hc (by rw [bytesV_len]; omega) ?_ (fun b hb => hd b (List.mem_of_mem_drop (List.mem_of_mem_take hb)))⟩
  rw [bytesV_drop, bytesV_take]
theorem See.nil {os : List (Option AObj)} {e : Nat} {f : Bool} : See os (.slice none e 0 0 f) [] := ⟨rfl, rfl⟩
theorem cov_len {os Y : List (Option AObj)} (hY : covers (few os) Y) : Y.length = os.length := by rw [hY.1, few_next]
theorem cov_obj {os Y : List (Option AObj)} (hY : covers (few os) Y) {i : Nat} {ob : AObj} (h : (os[i]?).join = some ob) (hg : ob.good os.length = true) : ∃ o', (Y[i]?).join = some o' ∧ o'.freeze = ob.freeze := by
  have h1 := look_of (st := few os) (i := i) (o := ob) (by rw [few_next]; exact join_lt h) (by rw [few_get]; exact h) (by rw [few_next]; exact hg)
  obtain ⟨_, o', h2, _, h3⟩ := look_some (hY.2 i _ h1)
  exact ⟨o', by rw [← few_get]; exact h2, h3.symm⟩
theorem cov_cells {os Y : List (Option AObj)} (hY : covers (few os) Y) {i : Nat} {own : Bool} {cs : List V} (h : (os[i]?).join = some (.cells own cs)) (hg : goods os.length cs = true) : ∃ o, (Y[i]?).join = some (.cells o cs) := by
  obtain ⟨o', h1, h2⟩ := cov_obj hY h hg
  cases o' with
  | map => cases h2
  | cells o cs' => cases h2; exact ⟨o, h1⟩
theorem cov_map {os Y : List (Option AObj)} (hY : covers (few os) Y) {i c : Nat} {own : Bool} {es : List (V × V × Nat)} (h : (os[i]?).join = some (.map own es c)) (hg : es.all (entGood os.length) = true) : ∃ o, (Y[i]?).join = some (.map o es c) := by
  obtain ⟨o', h1, h2⟩ := cov_obj hY h hg
  cases o' with
  | cells => cases h2
  | map o es' c' => cases h2; exact ⟨o, h1⟩
/- A FONT THAT IS SEEN -/
theorem ents_mem : ∀ {kvs : List (List Nat × V)} {n : Nat} {e : V × V × Nat}, e ∈ entsF n kvs → ∃ kv ∈ kvs, e.1 = .str kv.1 ∧ e.2.1 = kv.2
  | [], n, e, h => by cases h
  | kv :: kvs, n, e, h => by
    rcases List.mem_cons.1 (show e ∈ (V.str kv.1, kv.2, n) :: entsF (n + 1) kvs from h) with rfl | h
    · exact ⟨kv, List.mem_cons_self .., rfl, rfl⟩
    · obtain ⟨kv', h1, h2⟩ := ents_mem h
      exact ⟨kv', List.mem_cons_of_mem _ h1, h2⟩
structure FontSee (os : List (Option AObj)) (F : Nat) (L : List Itm) : Prop where
  f0 : ∃ o, (os[F]?).join = some (.cells o [tagsV (F + 2 + L.length) L.length, .map (some (F + 1))])
  f1 : ∃ o, (os[F + 1]?).join = some (.map o (entsF 0 (kvsOf L (idsOf' (F + 2) L.length))) L.length)
  ft : ∀ j x, L[j]? = some x → ∃ o, (os[F + 2 + j]?).join = some (.cells o (bytesV x.2))
  fq : L ≠ [] → F + 2 + L.length < os.length
theorem FontMem.see {os : List (Option AObj)} {F : Nat} {L : List Itm} (h : FontMem os F L) : FontSee os F L :=
  ⟨⟨_, h.f0⟩, ⟨_, h.f1⟩, fun j x hx => ⟨_, h.ft j x hx⟩, fun hne => join_lt (h.fq hne)⟩
theorem FontSee.keep {os os' : List (Option AObj)} {F : Nat} {L : List Itm} (h : FontSee os F L) (he : ∀ i, i < os.length → (os'[i]?).join = (os[i]?).join) (hl : os.length ≤ os'.length) : FontSee os' F L := by
  obtain ⟨⟨o1, h1⟩, ⟨o2, h2⟩, h3, h4⟩ := h
  refine ⟨⟨o1, by rw [he _ (join_lt h1)]; exact h1⟩, ⟨o2, by rw [he _ (join_lt h2)]; exact h2⟩, fun j x hx => ?_, fun hne => by have := h4 hne; omega⟩
  obtain ⟨o, ho⟩ := h3 j x hx
  exact ⟨o, by rw [he _ (join_lt ho)]; exact ho⟩
theorem FontSee.grow {os l : List (Option AObj)} {F : Nat} {L : List Itm} (h : FontSee os F L) : FontSee (os ++ l) F L := h.keep (fun i hi => join_app hi) (by simp)
theorem FontSee.lt {os : List (Option AObj)} {F : Nat} {L : List Itm} (h : FontSee os F L) : F + 1 < os.length := by
  obtain ⟨o, h1⟩ := h.f1
  exact join_lt h1
theorem FontSee.cov {os Y : List (Option AObj)} {F : Nat} {L : List Itm} (h : FontSee os F L) (hY : covers (few os) Y) : FontSee Y F L := by
  obtain ⟨⟨o1, h1⟩, ⟨o2, h2⟩, h3, h4⟩ := h
  have l2 := join_lt h2
  refine ⟨cov_cells hY h1 ?_, cov_map hY h2 ?_, fun j x hx => ?_, fun hne => by rw [cov_len hY]; exact h4 hne⟩
  · have hm : (V.map (some (F + 1))).good os.length = true := by simp [V.good]; exact l2
    by_cases hL : L = []
    · subst hL; simp [goods, tagsV, hm, V.good]
      exact l2
    · have := h4 hL
      simp [goods, tagsV, hm, V.good, hL]
      exact ⟨this, l2⟩
  · rw [List.all_eq_true]
    intro e he
    obtain ⟨kv, hkv, h1, h2⟩ := ents_mem he
    obtain ⟨j, hj⟩ := List.mem_iff_getElem?.1 hkv
    unfold kvsOf idsOf' at hj
    rw [List.getElem?_zipWith] at hj
    cases hx : L[j]? with
    | none => rw [hx] at hj; cases hj
    | some x =>
      have hjl := (List.getElem?_eq_some_iff.1 hx).1
      rw [hx, List.getElem?_map, List.getElem?_range hjl] at hj
      cases hj
      obtain ⟨o, ho⟩ := h3 j x hx
      have hlt := join_lt ho
      simp [entGood, h1, h2, V.good]
      exact hlt
  · obtain ⟨o, ho⟩ := h3 j x hx
    exact cov_cells hY ho (flats_good (List.all_eq_true.2 bytesV_flat))
theorem Table_see {call : CallT} {lf nC : Nat} (hC : CloneF call nC) {os : List (Option AObj)} {F M c p k : Nat} {o1 o2 o3 : Bool} {tv : V} {kvs : List (List Nat × V)} {t b : List Nat} (hF : (os[F]?).join = some (.cells o1 [tv, .map (some M)])) (hM : (os[M]?).join = some (.map o2 (entsF 0 kvs) c))
    (hk : kvs[k]? = some (t, .slice (some (p, 0)) 1 b.length b.length false)) (hne : ∀ j, j < k → ∀ kv, kvs[j]? = some kv → kv.1 ≠ t) (hp : (os[p]?).join = some (.cells o3 (bytesV b))) (hs : b.length ≤ 140737488354816) :
    enterF call lf [.ptr (some (F, 0)), .str t] (few os) (Table_c nC) = some (.tuple [(cloneR os b).1, .bool true], (cloneR os b).2) := by
  have h1 := lookup_at (zero := .slice none 0 0 0 true) hM hk hne
  have h2 : loadV (few os) false 1 (.ptr (some (F, 1))) = some (.map (some M)) := (load_few hF).trans rfl
  have h3 := hC.1 os p 0 b.length b.length false o3 (bytesV b) b hp (by rw [bytesV_len]; omega) (by rw [List.drop_zero, ← bytesV_len, List.take_length]) rfl hs
  have h4 : (cloneR os b).1.plain = true := by unfold cloneR; split <;> rfl
  obtain ⟨cv, cs, hcr⟩ : ∃ cv cs, cloneR os b = (cv, cs) := ⟨_, _, rfl⟩
  rw [hcr] at h3 h4 ⊢
  refine enter_eq ?_
  simp [h2, step_lookup, h1, h3, h4]
/-- A table that is asked of a font that is seen: its bytes anew, and nothing else. -/
def TabLF (call : CallT) (g : Nat) : Prop := ∀ os F L t, FontSee os F L → Tame L → call g [.ptr (some (F, 0)), .str t] (few os) = match askL L t with
  | some b => some (.tuple [heldV os.length b, .bool true], few (os ++ [some (newBytes b)]))
  | none => some (.tuple [.slice none 0 0 0 true, .bool false], few os)
theorem TabLF.auto {base : CallT} {g lf nC : Nat} (hC : CloneF base nC) (hN : CloneN base nC) : TabLF (Vabs.withL base g (lawOf (autoRd base lf (Table_c nC)))) g := fun os F L t hF hL => by
  have hg : goods os.length [.ptr (some (F, 0)), .str t] = true := by
    have := hF.lt
    simp [goods, V.good]; omega
  cases ha : askL L t with
  | none =>
    refine auto_flat hg rfl rfl fun Y hY => ?_
    obtain ⟨⟨o1, h1⟩, ⟨o2, h2⟩, h3, h4⟩ := hF.cov hY
    have hno := ask_none ha
    exact ⟨_, Table_no hN h1 h2 fun kv hkv e => hno (by
      rw [← kvs_keys (ps := idsOf' (F + 2) L.length) (by simp [idsOf'])]
      exact List.mem_map.2 ⟨kv, hkv, e⟩)⟩
  | some b =>
    obtain ⟨j, hj⟩ := ask_some ha
    obtain ⟨hb1, hb2⟩ := hL.ask ha
    have hjl := (List.getElem?_eq_some_iff.1 hj).1
    refine auto_one (cs := bytesV b) (F := fun p => .tuple [heldV p b, .bool true]) hg (List.all_eq_true.2 bytesV_flat) (fun p => ⟨rfl, ?_, fun n hn => ?_⟩) fun Y hY => ?_
    · simp [ok2, ok1, heldV, V.leads, V.flat]
    · simp [rn2, rn1, heldV, rn0, rn, Nat.not_lt.2 hn]
    · obtain ⟨⟨o1, h1⟩, ⟨o2, h2⟩, h3, h4⟩ := hF.cov hY
      obtain ⟨o3, hp⟩ := h3 j _ hj
      have hk : (kvsOf L (idsOf' (F + 2) L.length))[j]? = some (t, V.slice (some (F + 2 + j, 0)) 1 b.length b.length false) := by
        unfold kvsOf idsOf'
        rw [List.getElem?_zipWith, hj, List.getElem?_map, List.getElem?_range hjl]
        rfl
      have e := Table_see (lf := lf) hC h1 h2 hk (fun i hi kv hkv he => by
        have hi1 : (L.map (·.1))[i]? = some t := by
          rw [← kvs_keys (ps := idsOf' (F + 2) L.length) (by simp [idsOf']), List.getElem?_map, hkv, ← he]; rfl
        have hi2 : (L.map (·.1))[j]? = some t := by rw [List.getElem?_map, hj]; rfl
        have := nodup_at' hL.nd hi1 hi2
        omega) hp (by omega)
      obtain ⟨p, l, hcl, hpl, hpb⟩ := clone_held (os := Y) (b := b)
      rw [hcl] at e
      exact ⟨p, _, e, by rw [cov_len hY] at hpl; exact hpl, hpb⟩
theorem TabLF.withF {call : CallT} {n g lf : Nat} {fn : AFunc} (h : TabLF call n) (hne : n ≠ g) : TabLF (Vabs.withF call g lf fn) n := fun os F L t a b => by rw [withF_other hne]; exact h os F L t a b
theorem TabLF.other {call : CallT} {n g : Nat} {l : List V → St → Option (V × St)} (h : TabLF call n) (hne : n ≠ g) : TabLF (withL call g l) n := fun os F L t a b => by rw [withL_other hne]; exact h os F L t a b
theorem See.cells {os : List (Option AObj)} {v : V} {bs : List Nat} (h : See os v bs) : v.cells = some [v] := by
  have h := h.2
  unfold lookB at h
  split at h
  · rfl
  · rfl
  · cases h
theorem See.plain {os : List (Option AObj)} {v : V} {bs : List Nat} (h : See os v bs) : v.plain = true := by
  have h := h.2
  unfold lookB at h
  split at h
  · rfl
  · rfl
  · cases h
/- FACTS OF ONE FUNCTION -/
abbrev FnT := List V → St → Option (V × St)
theorem carryF {P : FnT → Prop} {call : CallT} {n g lf : Nat} {fn : AFunc} (h : P (call n)) (hne : n ≠ g) : P (Vabs.withF call g lf fn n) := by
  have : Vabs.withF call g lf fn n = call n := funext fun a => funext fun s => withF_other hne
  rw [this]; exact h
theorem carryL {P : FnT → Prop} {call : CallT} {n g : Nat} {l : FnT} (h : P (call n)) (hne : n ≠ g) : P (withL call g l n) := by
  have : withL call g l n = call n := funext fun a => funext fun s => withL_other hne
  rw [this]; exact h
/-- Bytes that are seen, as a string. -/
theorem conv_seen {os : List (Option AObj)} {v : V} {bs : List Nat} (h : See os v bs) : convV (few os) .toStr v = some (.str bs) := by
  have hl := h.2
  unfold lookB at hl
  split at hl
  · cases hl; rfl
  · rename_i i o n c f
    split at hl
    · split at hl
      · rename_i own cs hlk
        obtain ⟨_, o', hg, _, hfz⟩ := look_some hlk
        have hg' : (few os).get i = some (.cells (match o' with | .cells b _ => b | _ => true) cs) := by
          cases o' with
          | map => cases hfz
          | cells b cs' => cases hfz; exact hg
        cases hc : cut o n cs with
        | none => rw [hc] at hl; cases hl
        | some x =>
          rw [hc] at hl
          have hx : x = bytesV bs := (bytesL_some hl).1
          show sel (Nat.beq 1 1) (match (few os).loadN i o n with | some cs => (bytesOf cs).map V.str | none => none) none = _
          unfold St.loadN
          rw [hg']
          dsimp only
          rw [hc, hx, Nat.beq_refl]
          show (bytesOf (bytesV bs)).map V.str = _
          rw [bytesOf_of h.lt]
          rfl
      · cases hl
    · cases hl
  · cases hl

end Go.Vabs.Vc

namespace Go.Vabs
set_option linter.unusedVariables false
theorem if_leN {α : Type} {a b : Nat} {x y : α} (h : a ≤ b) : (if a ≤ b then x else y) = x := if_pos h
class LenIs (X : List (Option AObj)) (N : outParam Nat) : Prop where
  eq : X.length = N
class At (X : List (Option AObj)) (i : Nat) (o : outParam AObj) : Prop where
  eq : (X[i]?).join = some o
/-- What is struck at j (if n is not zero) is not at i. -/
class Df (n j i : Nat) : Prop where
  ne : n ≠ 0 → j ≠ i
section
variable {X l : List (Option AObj)} {N i j n : Nat} {o : AObj}
instance (priority := low) lenSelf : LenIs X X.length := ⟨rfl⟩
instance lenSet {y : Option AObj} [h : LenIs X N] : LenIs (X.set i y) N := ⟨by rw [List.length_set]; exact h.eq⟩
instance lenSetK [h : LenIs X N] : LenIs (Sp.setK n X i) N := ⟨by rw [Sp.setK_len]; exact h.eq⟩
instance atSet {y : Option AObj} [h : At X i o] [d : Df 1 j i] : At (X.set j y) i o := ⟨by rw [Sb.join_set (d.ne (by decide))]; exact h.eq⟩
instance atSetK [h : At X i o] [d : Df n j i] : At (Sp.setK n X j) i o := ⟨by rw [Sp.setK_at (fun h0 => (d.ne h0).symm)]; exact h.eq⟩
instance atSame {o' : AObj} [h : At X i o'] : At (X.set i (some o)) i o := ⟨by rw [Sb.join_set_same (Sb.join_lt h.eq)]⟩
theorem At.lt [h : At X i o] : i < X.length := Sb.join_lt h.eq
theorem tn_at {k : Nat} [h : LenIs X N] : ((X ++ l)[N + k]?).join = (l[k]?).join := by rw [← h.eq]; exact tl_at
theorem tn_base [h : At X i o] : ((X ++ l)[i]?).join = some o := by rw [Sb.join_app (Sb.join_lt h.eq)]; exact h.eq
theorem tn_alloc {o : AObj} [h : LenIs X N] : (tl X l).alloc o = some (N + l.length, tl X (l ++ [some o])) := by rw [tl_alloc, h.eq]
theorem tn_load {a : Bool} {n k o : Nat} [h : LenIs X N] : loadV (tl X l) a n (.ptr (some (N + k, o))) = loadC a n o (cellsAt l k) := by rw [← h.eq]; exact tl_load
theorem tn_load0 {a : Bool} {n o : Nat} [h : LenIs X N] : loadV (tl X l) a n (.ptr (some (N, o))) = loadC a n o (cellsAt l 0) := tn_load (k := 0)
theorem tn_store {n k o : Nat} {vs : List V} [h : LenIs X N] : storeV (tl X l) n (.ptr (some (N + k, o))) (some vs) = storeT X l n k o vs (ownAt l k) := by rw [← h.eq]; exact tl_store
theorem tn_store0 {n o : Nat} {vs : List V} [h : LenIs X N] : storeV (tl X l) n (.ptr (some (N, o))) (some vs) = storeT X l n 0 o vs (ownAt l 0) := tn_store (k := 0)
theorem tn_first {m e n k o c : Nat} {f : Bool} [h : LenIs X N] : firstN (tl X l) e m (.slice (some (N + k, o)) e n c f) = firstC m e n o (cellsAt l k) := by rw [← h.eq]; exact tl_first
theorem tn_first0 {m e n o c : Nat} {f : Bool} [h : LenIs X N] : firstN (tl X l) e m (.slice (some (N, o)) e n c f) = firstC m e n o (cellsAt l 0) := tn_first (k := 0)
/-- What an append to a slice of known contents leaves. -/
noncomputable def growN (X l : List (Option AObj)) (N e bytes k n m : Nat) (new : List V) : Option (List V) → Option (V × St)
  | some cs => if (2 * (n + (m + 1)) + 1024) * bytes ≤ 281474976710656 ∧ new.length = (m + 1) * e ∧ n * e = cs.length then
      some (.slice (some (N + l.length, 0)) e (n + (m + 1)) (n + (m + 1)) false, tl X (l.set k none ++ [some (.cells true (cs ++ new))])) else none
  | none => none
theorem growN_some {e bytes k n m : Nat} {new cs : List V} : growN X l N e bytes k n m new (some cs) = if (2 * (n + (m + 1)) + 1024) * bytes ≤ 281474976710656 ∧ new.length = (m + 1) * e ∧ n * e = cs.length then
      some (.slice (some (N + l.length, 0)) e (n + (m + 1)) (n + (m + 1)) false, tl X (l.set k none ++ [some (.cells true (cs ++ new))])) else none := rfl
theorem tn_grow_none {e e' bytes m : Nat} {f : Bool} {new : List V} [h : LenIs X N] : appendV (tl X l) e bytes (.slice none e' 0 0 f) (some (m + 1)) (some new) =
    if (2 * (m + 1) + 1024) * bytes ≤ 281474976710656 ∧ new.length = (m + 1) * e then some (.slice (some (N + l.length, 0)) e (m + 1) (m + 1) false, tl X (l ++ [some (.cells true new)])) else none := by rw [tl_grow_none, h.eq]
theorem tn_grow {e bytes k n m : Nat} {new : List V} [h : LenIs X N] : appendV (tl X l) e bytes (.slice (some (N + k, 0)) e n n false) (some (m + 1)) (some new) = growN X l N e bytes k n m new (ownAt l k) := by
  rw [← h.eq, tl_grow]; rfl
theorem tn_grow0 {e bytes n m : Nat} {new : List V} [h : LenIs X N] : appendV (tl X l) e bytes (.slice (some (N, 0)) e n n false) (some (m + 1)) (some new) = growN X l N e bytes 0 n m new (ownAt l 0) := tn_grow (k := 0)
theorem tn_next [h : LenIs X N] : (tl X l).next = N + l.length := by rw [tl_next, h.eq]
theorem tn_alloc_dir {rs ws : List Nat} {ps : List Past} {o : AObj} [h : LenIs X N] : (limited (.dir rs ws) ps (tl X l)).alloc o = some (N + l.length, back (limited (.dir rs ws) ps (tl X l)) (tl X (l ++ [some o]))) := by rw [tl_alloc_dir, h.eq]
/- the elder memory -/
theorem bn_load {a : Bool} {n i o : Nat} {own : Bool} {cs : List V} [h : At X i (.cells own cs)] : loadV (tl X l) a n (.ptr (some (i, o))) = loadC a n o (some cs) := by
  rw [tl_eq, load_fewC, cellsAt_eq, tn_base]
theorem bn_first {m e n i o c : Nat} {f own : Bool} {cs : List V} [h : At X i (.cells own cs)] : firstN (tl X l) e m (.slice (some (i, o)) e n c f) = firstC m e n o (some cs) := by
  rw [tl_eq, first_fewC, cellsAt_eq, tn_base]
theorem bn_store {n i o : Nat} {vs cs : List V} [h : At X i (.cells true cs)] : storeV (tl X l) n (.ptr (some (i, o))) (some vs) = if vs.length = n then (match splice o vs cs with | some r => some (V.undef, tl (X.set i (some (.cells true r))) l) | none => none) else none := by
  rw [tl_eq, store_fewC, ownAt_eq, tn_base]
  show (if vs.length = n then (match splice o vs cs with | some r => some (V.undef, few ((X ++ l).set i (some (.cells true r)))) | none => none) else none) = _
  split
  · cases splice o vs cs with
    | none => rfl
    | some r =>
      dsimp only
      rw [List.set_append_left _ _ h.lt]
      rfl
  · rfl
theorem bn_grow {e bytes i n m : Nat} {new cs : List V} [h : At X i (.cells true cs)] [hN : LenIs X N] : appendV (tl X l) e bytes (.slice (some (i, 0)) e n n false) (some (m + 1)) (some new) = if (2 * (n + (m + 1)) + 1024) * bytes ≤ 281474976710656 ∧ new.length = (m + 1) * e ∧ n * e = cs.length then
      some (.slice (some (N + l.length, 0)) e (n + (m + 1)) (n + (m + 1)) false, tl (X.set i none) (l ++ [some (.cells true (cs ++ new))])) else none := by
  rw [tl_eq, grow_some, ownAt_eq, tn_base]
  show growC (X ++ l) e bytes i n m new (some cs) = _
  rw [growC_some, List.set_append_left _ _ h.lt, List.length_append, hN.eq, List.append_assoc]
  rfl
/-- What an append to a slice without room leaves: new memory, the elder one stays. -/
noncomputable def fixN (X l : List (Option AObj)) (N e bytes o n m : Nat) (new : List V) : Option (List V) → Option (V × St)
  | some cs => if (2 * (n + (m + 1)) + 1024) * bytes ≤ 281474976710656 ∧ new.length = (m + 1) * e then
      (match cut o (n * e) cs with | some old => some (.slice (some (N + l.length, 0)) e (n + (m + 1)) (n + (m + 1)) false, tl X (l ++ [some (.cells true (old ++ new))])) | none => none) else none
  | none => none
theorem fixN_some {e bytes o n m : Nat} {new cs : List V} : fixN X l N e bytes o n m new (some cs) = if (2 * (n + (m + 1)) + 1024) * bytes ≤ 281474976710656 ∧ new.length = (m + 1) * e then
      (match cut o (n * e) cs with | some old => some (.slice (some (N + l.length, 0)) e (n + (m + 1)) (n + (m + 1)) false, tl X (l ++ [some (.cells true (old ++ new))])) | none => none) else none := rfl
theorem grow_fixC {os : List (Option AObj)} {e bytes i o n m : Nat} {new : List V} : appendV (few os) e bytes (.slice (some (i, o)) e n n true) (some (m + 1)) (some new) = match cellsAt os i with
    | some cs => if (2 * (n + (m + 1)) + 1024) * bytes ≤ 281474976710656 ∧ new.length = (m + 1) * e then
      (match cut o (n * e) cs with | some old => some (.slice (some (os.length, 0)) e (n + (m + 1)) (n + (m + 1)) false, few (os ++ [some (.cells true (old ++ new))])) | none => none) else none
    | none => none := by
  show valOf (appendOp (few os) e bytes (.slice (some (i, o)) e n n true) (m + 1) new) = _
  unfold appendOp
  dsimp only
  rw [few_get, cellsAt_eq, Nat.beq_refl, sel_true, show Nat.ble (n + (m + 1)) n = false from by
    cases e : Nat.ble (n + (m + 1)) n with
    | false => rfl
    | true => exact absurd (Nat.le_of_ble_eq_true e) (by omega)]
  cases hx : (os[i]?).join with
  | none => dsimp only; cases (Nat.ble ((2 * (n + (m + 1)) + 1024) * bytes) 281474976710656 && Nat.beq new.length ((m + 1) * e)) <;> rfl
  | some ob =>
    cases ob with
    | map own es c => dsimp only; cases (Nat.ble ((2 * (n + (m + 1)) + 1024) * bytes) 281474976710656 && Nat.beq new.length ((m + 1) * e)) <;> rfl
    | cells own cs =>
      dsimp only
      by_cases h : (2 * (n + (m + 1)) + 1024) * bytes ≤ 281474976710656 ∧ new.length = (m + 1) * e
      · rw [if_pos h, ble_t h.1, h.2, Nat.beq_refl]
        cases cut o (n * e) cs with
        | none => rfl
        | some old => dsimp only; rw [few_alloc]; rfl
      · rw [if_neg h]
        have : (Nat.ble ((2 * (n + (m + 1)) + 1024) * bytes) 281474976710656 && Nat.beq new.length ((m + 1) * e)) = false := by
          cases e1 : Nat.ble ((2 * (n + (m + 1)) + 1024) * bytes) 281474976710656 with
          | false => rfl
          | true =>
            cases e2 : Nat.beq new.length ((m + 1) * e) with
            | false => rfl
            | true => exact absurd ⟨Nat.le_of_ble_eq_true e1, Nat.eq_of_beq_eq_true e2⟩ h
        rw [this]
        rfl
theorem tn_fix {e bytes k o n m : Nat} {new : List V} [h : LenIs X N] : appendV (tl X l) e bytes (.slice (some (N + k, o)) e n n true) (some (m + 1)) (some new) = fixN X l N e bytes o n m new (cellsAt l k) := by
  rw [tl_eq, grow_fixC, ← h.eq, tl_cells]
  unfold fixN
  cases cellsAt l k with
  | none => rfl
  | some cs =>
    dsimp only
    rw [List.length_append]
    split
    · cases cut o (n * e) cs with
      | none => rfl
      | some old => dsimp only; rw [List.append_assoc]; rfl
    · rfl
theorem bn_fix {e bytes i o n m : Nat} {own : Bool} {new cs : List V} [h : At X i (.cells own cs)] [hN : LenIs X N] : appendV (tl X l) e bytes (.slice (some (i, o)) e n n true) (some (m + 1)) (some new) = fixN X l N e bytes o n m new (some cs) := by
  rw [tl_eq, grow_fixC, cellsAt_eq, tn_base]
  dsimp only [fixN]
  rw [List.length_append, hN.eq]
  split
  · cases cut o (n * e) cs with
    | none => rfl
    | some old => dsimp only; rw [List.append_assoc]; rfl
  · rfl
theorem tn_fix0 {e bytes o n m : Nat} {new : List V} [h : LenIs X N] : appendV (tl X l) e bytes (.slice (some (N, o)) e n n true) (some (m + 1)) (some new) = fixN X l N e bytes o n m new (cellsAt l 0) := tn_fix (k := 0)
end
end Go.Vabs

namespace Go.Vabs.Ce
set_option linter.unusedVariables false
set_option linter.unusedSimpArgs false
set_option maxRecDepth 10000
attribute [local simp] wp_skip wp_ret wp_exit wp_reg wp_seq wp_cond wp_block thenQ_normal thenQ_ret thenQ_exit blockQ_normal blockQ_ret blockQ_exit wpCond_true wpCond_false wpOps_nil wpVal_some wpGuard_true wpGuard_false wpOps_guard wpOps_cons
  put_at put_no ev_c ev_slot posEq_h posEq_o posEq_i posEq_ho posEq_hi posEq_oh posEq_ih posEq_oi posEq_io sel_true sel_false
  okv_some step_mv step_call step_pick pickV_bool step_bin bin_add bin_sub bin_mul bin_eql bin_neq bin_lss bin_leq bin_gtr bin_geq bin_eqb bin_neb bin_eqs bin_nes step_un un_not un_neg step_len len_slice len_str len_const step_extract extractV nth step_convInt conv_int step_convStr step_slice step_idxAddr natOf_nat step_load step_index step_field step_fieldAddr step_build step_minmax
  step_alloc step_bslice bsliceV_some newV_some step_store step_append boolIs_b boolIs_t finQ_ret finQ_normal ressE_nil ressE_cons resE_tmp consO_some initE_nil initE_cons pos_0 pos_1 pos_2 pos_3 pos_4 pos_5 pos_6 pos_7 pos_8 plain_bool plain_int plain_str plain_ptr plain_slice plain_map plain_agg plain_func plain_nilFunc V.undef oneOf_one oneOf_two ble_self
open Go.Vabs.Pk Go.Vabs.Ph Go.Vabs.Sa Go.Vabs.Sb Go.Vabs.Sc Go.Vabs.Sd Go.Vabs.Se Go.Vabs.Sg Go.Vabs.Sh Go.Vabs.Sm Go.Vabs.Sn Go.Vabs.Sp Go.Vabs.Sr Go.Vabs.St Go.Vabs.Su Go.Vabs.L2 Go.Vabs.Na Go.Vabs.Nb Go.Vabs.Ra Go.Vabs.Rb Go.Vabs.Rc Go.Vabs.Rd Go.Vabs.Re Go.Vabs.Ca Go.Vabs.Cb Go.Vabs.Cc Go.Vabs.Cd
attribute [local simp] step_nilchk nilchk_ptr step_box cells_int cells_bool cells_str cells_slice cells_ptr cells_agg fieldAddrV natOf_zero fill repN splice over newV step_appendZ
  wp_dreg wpDs_nil wpDs_cons wantedE_none wantedE_some wpDGuard_true wpDGuard_lim wpDGuard_false wpDLim_true wpDVal_free wpDVal_lim back_limited next_limited limF_dir limF_false foot_load foot_store foot_convStr okAll_nil okAll_cons pastsOf nthP ahead few_next load_limited convStr_limited blt_dec okPair_dd okPair_dc okPair_cd okPair_cc anyIn_nil anyIn_same anyIn_cons meets_nil meets_nil'
  tl_alloc tl_load tl_load0 tl_store tl_store0 storeT_some loadC_some cellsAt_zero cellsAt_succ ownAt_zero ownAt_succ tl_store_d tl_alloc_dir tl_back tl_back_few few_back_tl tl_next backv_some back_back cut takeN nbeq_dec ble_dec meets_cons mem_nil mem_cons idOf load_d convStr_d
/- A MEMORY BEHIND A MEMORY: calls -/
theorem part_tl {call : CallT} {nP : Nat} (hP : PartF call nP) {X l : List (Option AObj)} {v : V} {bs : List Nat} {x n : Int} (hv : bytesAt (tl X l) v = some bs) (hnil : isNil v = false) (hl : bs.length ≤ 140737488354000) (ht : thereB bs.length x n = true) :
    call nP [v, .int .i64 x, .int .i64 n] (tl X l) = some (.tuple [.slice (some (X.length + l.length, 0)) 1 n.toNat n.toNat false, .bool true], tl X (l ++ [some (newBytes (cutB bs x n))])) := by
  have := part_few hP (os := X ++ l) hv hnil hl ht
  rw [List.length_append, List.append_assoc] at this
  exact this
theorem chunk_tl {it : Nat} {call : CallT} {nC : Nat} (hC : ChunkF it call nC) {X l : List (Option AObj)} {v : V} {n : Nat} (h1 : v.cells = some [v]) (h2 : v.plain = true) (h3 : 0 < n ∧ n < 1000000) :
    call nC [v, .int .i64 (n : Int)] (tl X l) = some (.func it [] [.ptr (some (X.length + l.length, 0)), .ptr (some (X.length + (l.length + 1), 0))], tl X (l ++ [some (.cells true [v]), some (.cells true [.int .i64 (n : Int)])])) := by
  have := hC (X ++ l) v n h1 h2 h3.1 h3.2
  rw [List.length_append, List.append_assoc, Nat.add_assoc] at this
  exact this
/- ONE SUBTABLE -/
structure OneSub (bs : List Nat) (s : Sz) (f0 l0 fr : Nat) : Prop where
  len : bs.length ≤ 5000000
  cnt : s.cnt = 1
  room : s.at_ + 8 ≤ bs.length
  a : num bs (s.at_ : Int) 2 = some f0
  b : num bs ((s.at_ + 2 : Nat) : Int) 2 = some l0
  c : num bs ((s.at_ + 4 : Nat) : Int) 4 = some fr
def Entry5F (call : CallT) (g : Nat) : Prop := ∀ os v bs (s : Sz) (f0 l0 fr k : Nat), bytesAt (few os) v = some bs → isNil v = false → v.plain = true → OneSub bs s f0 l0 fr → s.first ≤ k → k ≤ s.last → f0 ≤ k → k ≤ l0 → k ≤ 70000 →
  ∃ os', call g [.agg (szV s), v, .int .i64 (k : Int)] (few os) = some (.tuple [.int .i64 ((k - f0 : Nat) : Int), .int .i64 ((s.at_ + fr : Nat) : Int), .int .i64 0], few os') ∧ (∀ i, i < os.length → (os'[i]?).join = (os[i]?).join) ∧ os.length ≤ os'.length
def Entry5NoF (call : CallT) (g : Nat) : Prop := ∀ os v (s : Sz) (k : Int), (k < s.first ∨ s.last < k) → v.plain = true →
  ∃ os', call g [.agg (szV s), v, .int .i64 k] (few os) = some (.tuple [.int .i64 0, .int .i64 0, .int .i64 6], few os') ∧ (∀ i, i < os.length → (os'[i]?).join = (os[i]?).join) ∧ os.length ≤ os'.length
theorem Entry5NoF.code {base : CallT} {g lf it nP nC n2 n4 : Nat} : Entry5NoF (Vabs.withF base g lf (Cc.entry_c it nP nC n2 n4)) g := fun os v s k hk hp => by
  rw [withF_same]
  refine ⟨os ++ [some (.cells true (szV s)), some (.cells true [.int .i64 k]), some (.cells true [.int .i64 0]), some (.cells true [.int .i64 0]), some (.cells true [.int .i64 6])], ?_, fun i hi => join_app hi, by simp⟩
  refine enter_eq ?_
  unfold szV
  rw [tl_of (X := os)]
  by_cases h1 : k < s.first
  · simp (disch := omega) [dlt_t, dlt_f, dle_t, dle_f, dltn_t, dltn_f, dlen_t, dlen_f, deq_t, deq_f, deqn_t, deqn_f, resE_cell]
    rfl
  · simp (disch := omega) [dlt_t, dlt_f, dle_t, dle_f, dltn_t, dltn_f, dlen_t, dlen_f, deq_t, deq_f, deqn_t, deqn_f, resE_cell]
    rfl
set_option maxHeartbeats 4000000 in
theorem Entry5F.code {base : CallT} {g lf it nP nC n2 n4 : Nat} (hlf : 70 ≤ lf) (h2 : UF 2 base n2) (h4 : UF 4 base n4) (hP : PartF base nP) (hC : ChunkF it base nC) : Entry5F (Vabs.withF base g lf (Cc.entry_c it nP nC n2 n4)) g := fun os v bs s f0 l0 fr k hv hnil hpl hS k1 k2 k3 k4 k5 => by
  rw [withF_same]
  have hlen := hS.len
  have hroom := hS.room
  have hcnt := hS.cnt
  obtain ⟨N, hN⟩ : ∃ N, N = os.length := ⟨_, rfl⟩
  obtain ⟨d, hd⟩ : ∃ d, d = cutB bs (s.at_ : Int) 8 := ⟨_, rfl⟩
  have hde : d = (bs.drop s.at_).take 8 := by rw [hd]; unfold cutB; rw [Int.toNat_natCast]; rfl
  have hdl : d.length = 8 := by rw [hde, List.length_take, List.length_drop]; omega
  have hd256 : ∀ b ∈ d, b < 256 := fun b hb => by rw [hde] at hb; exact bytesAt_lt hv b (List.mem_of_mem_drop (List.mem_of_mem_take hb))
  have frl : fr < 4294967296 := by
    have := num_lt (x := ((s.at_ + 4 : Nat) : Int)) (z := 4) (fun b hb => bytesAt_lt hv b hb)
    rw [hS.c] at this
    exact this
  have ep : ∀ l, base nP [v, .int .i64 (s.at_ : Int), .int .i64 8] (tl os l) = some (.tuple [.slice (some (os.length + l.length, 0)) 1 8 8 false, .bool true], tl os (l ++ [some (newBytes d)])) := fun l => by
    have := part_tl hP (X := os) (l := l) (x := (s.at_ : Int)) (n := 8) (tl_bytes hv) hnil (by omega) (thereB_true.2 (by omega))
    rw [← hd] at this
    exact this
  have ec : ∀ l, base nC [.slice (some (os.length + 5, 0)) 1 8 8 false, .int .i64 8] (tl os l) = _ := fun l => chunk_tl hC (X := os) (l := l) (v := .slice (some (os.length + 5, 0)) 1 8 8 false) (n := 8) rfl rfl (by omega)
  obtain ⟨L, hL⟩ : ∃ L : List (Option AObj), L = [some (.cells true (szV s)), some (.cells true [.int .i64 (k : Int)]), some (.cells true [.int .i64 0]), some (.cells true [.int .i64 0]), some (.cells true [.int .i64 0]), some (newBytes d), some (.cells true [.slice (some (os.length + 5, 0)) 1 8 8 false]), some (.cells true [.int .i64 8]), none] := ⟨_, rfl⟩
  have main := enter_wp (call := base) (lf := lf) (n := 78) (args := [.agg (szV s), v, .int .i64 (k : Int)]) (st := few os) (K := fun u st => u = .tuple [.int .i64 ((k - f0 : Nat) : Int), .int .i64 ((s.at_ + fr : Nat) : Int), .int .i64 0] ∧ ∃ l, st = few (os ++ l)) (c := (Cc.entry_c it nP nC n2 n4).code) (rs := (Cc.entry_c it nP nC n2 n4).results) ?_
  · obtain ⟨u, st', h1, rfl, l, rfl⟩ := main
    exact ⟨os ++ l, h1, fun i hi => join_app hi, by simp⟩
  · unfold Cc.entry_c
    dsimp only
    have hkf : ¬ (k : Int) < (s.first : Int) := by omega
    have hkl : ¬ (s.last : Int) < (k : Int) := by omega
    rw [tl_of (X := os)]
    unfold szV
    simp (disch := omega) [dlt_t, dlt_f, dle_t, dle_f, dltn_t, dltn_f, dlen_t, dlen_f, deq_t, deq_f, deqn_t, deqn_f, hcnt, ep, ec, wrap_i]
    rw [tl_eq]
    refine wp_chunk (fun j W => j = 0 ∧ W = os ++ L) (b1 := os.length + 6) (b2 := os.length + 7) (q := os.length + 5) (o := 0) (len := 8) (cap := 8) (n := 8) (m := 1) (f := false) ?_ (by omega) (by omega) (by omega) (by omega) (by omega) ?_ ?_ ?_ ?_
    · simp
    · rintro j W ⟨_, rfl⟩
      rw [hL]
      exact ⟨by rw [tl_at]; rfl, by rw [tl_at]; rfl⟩
    · refine ⟨rfl, ?_⟩
      rw [hL]; simp [szV, hcnt]
    · rintro j W hj ⟨rfl, rfl⟩
      have hw : bytesAt (few (os ++ L)) (.slice (some (os.length + 5, 0)) 1 8 8 true) = some d := by
        have := sub_bytes (os := os ++ L) (p := os.length + 5) (o := 0) (w := 8) (c := 8) (f := true) (d := d) (by rw [hL, tl_at]; rfl) hd256 (by omega) (by omega)
        rw [List.drop_zero, List.take_of_length_le (by omega)] at this
        exact this
      have rd : ∀ (x z : Nat) (b : Nat), x + z ≤ 8 → num bs ((s.at_ + x : Nat) : Int) z = some b → num d (x : Int) z = some b := fun x z b hx hb => by
        rw [hde, num_cut (by omega) hx]; exact hb
      have c0 : base n2 [.slice (some (os.length + 5, 0)) 1 8 8 true, .int .i64 0] (tl os L) = some (.tuple [.int .i64 (f0 : Int), .bool true], tl os L) := by
        rw [tl_eq, h2 _ _ _ 0 hw (by omega), show (0 : Int) = ((0 : Nat) : Int) from rfl, rd 0 2 f0 (by omega) hS.a]; rfl
      have c1 : base n2 [.slice (some (os.length + 5, 0)) 1 8 8 true, .int .i64 2] (tl os L) = some (.tuple [.int .i64 (l0 : Int), .bool true], tl os L) := by
        rw [tl_eq, h2 _ _ _ 2 hw (by omega), show (2 : Int) = ((2 : Nat) : Int) from rfl, rd 2 2 l0 (by omega) hS.b]; rfl
      have c2 : base n4 [.slice (some (os.length + 5, 0)) 1 8 8 true, .int .i64 4] (tl os L) = some (.tuple [.int .i64 (fr : Int), .bool true], tl os L) := by
        rw [tl_eq, h4 _ _ _ 4 hw (by omega), show (4 : Int) = ((4 : Nat) : Int) from rfl, rd 4 4 fr (by omega) hS.c]; rfl
      rw [show few (os ++ L) = tl os L from rfl]
      unfold szV at hL
      rw [hL] at c0 c1 c2 ⊢
      simp (disch := omega) [dlt_t, dlt_f, dle_t, dle_f, dltn_t, dltn_f, dlen_t, dlen_f, deq_t, deq_f, deqn_t, deqn_f, c0, c1, c2, wrap_i, resE_cell]
      exact ⟨by omega, _, rfl⟩
    · rintro j W hj ⟨rfl, rfl⟩
      omega
theorem step_callv {call : CallT} {s : Env} {st : St} {f : Src} {xs : List Src} : stepE call (.callv f xs) s st = (match s.ev f with | .func g first cap => call g (first ++ xs.map s.ev ++ cap) st | _ => none) := by
  show (match ex_callv f xs s.ev st with | some (.val v, st') => some (v, st') | some (.enter g args, st') => call g args st' | none => none) = _
  unfold ex_callv
  cases s.ev f <;> rfl
def Pair5F (call : CallT) (g : Nat) : Prop := ∀ os v bs (a f t : Nat), bytesAt (few os) v = some bs → bs.length ≤ 5000000 → num bs (a : Int) 4 = some f → num bs ((a + 4 : Nat) : Int) 4 = some t → a ≤ 5000000 →
  ∃ l, call g [v, .int .i64 (a : Int), .int .i64 4] (few os) = some (.tuple [.agg [.int .i64 (f : Int), .int .i64 (t : Int), .slice none 0 0 0 true], .int .i64 0], few (os ++ l))
theorem Pair5F.code {base : CallT} {g lf n4 n2 : Nat} (h4 : UF 4 base n4) : Pair5F (Vabs.withF base g lf (Cc.pair_c n4 n2)) g := fun os v bs a f t hv hl h1 h2 ha => by
  rw [withF_same]
  refine ⟨[some (.cells true [.int .i64 (f : Int), .int .i64 (t : Int), .slice none 0 0 0 true])], ?_⟩
  have e1 : ∀ l, base n4 [v, .int .i64 (a : Int)] (tl os l) = some (.tuple [.int .i64 (f : Int), .bool true], tl os l) := fun l => by rw [h4 _ _ _ _ (tl_bytes hv) (by omega), h1]; rfl
  have e2 : ∀ l, base n4 [v, .int .i64 ((a : Int) + 4)] (tl os l) = some (.tuple [.int .i64 (t : Int), .bool true], tl os l) := fun l => by rw [show (a : Int) + 4 = ((a + 4 : Nat) : Int) from by omega, h4 _ _ _ _ (tl_bytes hv) (by omega), h2]; rfl
  refine enter_eq ?_
  rw [← tl_eq, tl_of (X := os)]
  simp (disch := omega) [dlt_t, dlt_f, dle_t, dle_f, dltn_t, dltn_f, dlen_t, dlen_f, deq_t, deq_f, deqn_t, deqn_f, e1, e2, wrap_i, resE_cell, step_callv]
def Placed5F (call : CallT) (g : Nat) : Prop := ∀ os v bs (a k f t : Nat) (y : Int), bytesAt (few os) v = some bs → v.plain = true → bs.length ≤ 5000000 → num bs ((a + 4 * k : Nat) : Int) 4 = some f → num bs ((a + 4 * k + 4 : Nat) : Int) 4 = some t → a + 4 * k ≤ 5000000 →
  ∃ l, call g [v, .int .i64 (a : Int), .int .i64 1, .int .i64 (k : Int), .int .i64 y] (few os) = some (.tuple [.agg [.int .i64 (f : Int), .int .i64 (t : Int), .slice none 0 0 0 true], .int .i64 0], few (os ++ l))
theorem Placed5F.code {base : CallT} {g lf nR nA nS nT : Nat} (hR : Pair5F base nR) : Placed5F (Vabs.withF base g lf (Cc.placed_c nR nA nS nT)) g := fun os v bs a k f t y hv hpl hl h1 h2 ha => by
  rw [withF_same]
  obtain ⟨l, e⟩ := hR (os ++ [some (.cells true [.int .i64 0, .int .i64 0, .slice none 0 0 0 true])]) v bs (a + 4 * k) f t (tl_bytes hv) hl h1 h2 ha
  refine ⟨some (.cells true [.int .i64 (f : Int), .int .i64 (t : Int), .slice none 0 0 0 true]) :: l, ?_⟩
  rw [List.append_assoc, ← tl_eq, ← tl_eq] at e
  have e : base nR [v, .int .i64 ((a : Int) + 4 * (k : Int)), .int .i64 4] (tl os [some (.cells true [.int .i64 0, .int .i64 0, .slice none 0 0 0 true])]) = some (.tuple [.agg [.int .i64 (f : Int), .int .i64 (t : Int), .slice none 0 0 0 true], .int .i64 0], tl os (some (.cells true [.int .i64 0, .int .i64 0, .slice none 0 0 0 true]) :: l)) := by
    rw [show (a : Int) + 4 * (k : Int) = ((a + 4 * k : Nat) : Int) from by omega]; exact e
  refine enter_eq ?_
  rw [← tl_eq, tl_of (X := os)]
  simp (disch := omega) [dlt_t, dlt_f, dle_t, dle_f, dltn_t, dltn_f, dlen_t, dlen_f, deq_t, deq_f, deqn_t, deqn_f, e, wrap_i, resE_cell]
theorem wrap_i8 : ∀ b : Nat, b < 256 → wrapV .i8 (b : Int) = sgn 1 b := by decide +kernel
/-- An image: its metrics' bytes; what is at the fourth, its length; then its bytes. -/
structure Img17 (d : List Nat) (x y : Int) (png : List Nat) : Prop where
  len : d.length = 9 + png.length ∧ png.length ≤ 5000000
  x_ : ∃ b : Nat, d[2]? = some b ∧ sgn 1 b = x
  y_ : ∃ b : Nat, d[3]? = some b ∧ sgn 1 b = y
  n : num d 5 4 = some png.length
  png_ : d.drop 9 = png
def Image5F (call : CallT) (g : Nat) : Prop := ∀ os v d (x y : Int) png (m : V), bytesAt (few os) v = some d → isNil v = false → v.plain = true → m.plain = true → Img17 d x y png →
  ∃ l, call g [v, .int .i64 17, m] (few os) = some (.tuple [.agg [.int .i64 x, .int .i64 y, .int .i64 0, .slice (some (os.length + 2, 0)) 1 png.length png.length false], .int .i64 0], few (os ++ l)) ∧ (l[2]?).join = some (newBytes png) ∧ l.length = 3
theorem Image5F.code {base : CallT} {g lf nP n4 : Nat} (hP : PartF base nP) (h4 : UF 4 base n4) : Image5F (Vabs.withF base g lf (Cc.imageC_c nP n4)) g := fun os v d x y png m hv hnil hpl hmp hI => by
  rw [withF_same]
  obtain ⟨hl, hpn⟩ := hI.len
  obtain ⟨n, hn⟩ : ∃ n, n = png.length := ⟨_, rfl⟩
  have hd256 := bytesAt_lt hv
  have ep : ∀ l, base nP [v, .int .i64 0, .int .i64 5] (tl os l) = some (.tuple [.slice (some (os.length + l.length, 0)) 1 5 5 false, .bool true], tl os (l ++ [some (.cells true (bytesV (d.take 5)))])) := fun l => by
    have := part_tl hP (X := os) (l := l) (x := 0) (n := 5) (tl_bytes hv) hnil (by omega) (thereB_true.2 (by omega))
    rw [show cutB d 0 5 = d.take 5 from by unfold cutB; rfl] at this
    exact this
  have ep2 : ∀ l, base nP [v, .int .i64 9, .int .i64 (n : Int)] (tl os l) = some (.tuple [.slice (some (os.length + l.length, 0)) 1 n n false, .bool true], tl os (l ++ [some (newBytes png)])) := fun l => by
    have := part_tl hP (X := os) (l := l) (x := 9) (n := (n : Int)) (tl_bytes hv) hnil (by omega) (thereB_true.2 (by omega))
    rw [show cutB d 9 (n : Int) = png from by unfold cutB; rw [Int.toNat_natCast, show (9 : Int).toNat = 9 from rfl, hI.png_, hn, List.take_length], Int.toNat_natCast] at this
    exact this
  have e4 : ∀ l, base n4 [v, .int .i64 5] (tl os l) = some (.tuple [.int .i64 (n : Int), .bool true], tl os l) := fun l => by rw [h4 _ _ _ _ (tl_bytes hv) (by omega), hI.n, hn]; rfl
  obtain ⟨b2, hb2, rfl⟩ := hI.x_
  obtain ⟨b3, hb3, rfl⟩ := hI.y_
  have w8 : ∀ k b : Nat, d[k]? = some b → wrapV .i8 (b : Int) = sgn 1 b ∧ wrapV .i64 (sgn 1 b) = sgn 1 b := fun k b hb => by
    have h256 := hd256 b (List.mem_of_getElem? hb)
    exact ⟨wrap_i8 b h256, wrap_i (by unfold sgn; split <;> omega) (by unfold sgn; split <;> omega)⟩
  obtain ⟨w1, w2⟩ := w8 2 b2 hb2
  obtain ⟨w3, w4⟩ := w8 3 b3 hb3
  have n2 : nth 2 (bytesV (d.take 5)) = some (.int .u8 (b2 : Int)) := by
    rw [nth_eq, bytesV_at, List.getElem?_take, if_pos (by omega), hb2]; rfl
  have n3 : nth 3 (bytesV (d.take 5)) = some (.int .u8 (b3 : Int)) := by
    rw [nth_eq, bytesV_at, List.getElem?_take, if_pos (by omega), hb3]; rfl
  refine ⟨[some (.cells true [.int .i64 (sgn 1 b2), .int .i64 (sgn 1 b3), .int .i64 0, .slice (some (os.length + 2, 0)) 1 n n false]), some (.cells true (bytesV (d.take 5))), some (newBytes png)], ?_, rfl, rfl⟩
  rw [← hn]
  refine enter_eq ?_
  rw [← tl_eq, tl_of (X := os)]
  simp (disch := omega) [dlt_t, dlt_f, dle_t, dle_f, dltn_t, dltn_f, dlen_t, dlen_f, deq_t, deq_f, deqn_t, deqn_f, ep, ep2, e4, wrap_i, resE_cell, n2, n3, w1, w2, w3, w4, natOf_int, idxAddr_slice]

end Go.Vabs.Ce

namespace Go.Vabs.Cf
set_option linter.unusedVariables false
set_option linter.unusedSimpArgs false
set_option maxRecDepth 10000
attribute [local simp] wp_skip wp_ret wp_exit wp_reg wp_seq wp_cond wp_block thenQ_normal thenQ_ret thenQ_exit blockQ_normal blockQ_ret blockQ_exit wpCond_true wpCond_false wpOps_nil wpVal_some wpGuard_true wpGuard_false wpOps_guard wpOps_cons
  put_at put_no ev_c ev_slot posEq_h posEq_o posEq_i posEq_ho posEq_hi posEq_oh posEq_ih posEq_oi posEq_io sel_true sel_false
  okv_some step_mv step_call step_pick pickV_bool step_bin bin_add bin_sub bin_mul bin_eql bin_neq bin_lss bin_leq bin_gtr bin_geq bin_eqb bin_neb bin_eqs bin_nes step_un un_not un_neg step_len len_slice len_str len_const step_extract extractV nth step_convInt conv_int step_convStr step_slice step_idxAddr natOf_nat step_load step_index step_field step_fieldAddr step_build step_minmax
  step_alloc step_bslice bsliceV_some newV_some step_store step_append boolIs_b boolIs_t finQ_ret finQ_normal ressE_nil ressE_cons resE_tmp consO_some initE_nil initE_cons pos_0 pos_1 pos_2 pos_3 pos_4 pos_5 pos_6 pos_7 pos_8 plain_bool plain_int plain_str plain_ptr plain_slice plain_map plain_agg plain_func plain_nilFunc V.undef oneOf_one oneOf_two ble_self
open Go.Vabs.Pk Go.Vabs.Ph Go.Vabs.Sa Go.Vabs.Sb Go.Vabs.Sc Go.Vabs.Sd Go.Vabs.Se Go.Vabs.Sg Go.Vabs.Sh Go.Vabs.Sm Go.Vabs.Sn Go.Vabs.Sp Go.Vabs.Sr Go.Vabs.St Go.Vabs.Su Go.Vabs.L2 Go.Vabs.Na Go.Vabs.Nb Go.Vabs.Ra Go.Vabs.Rb Go.Vabs.Rc Go.Vabs.Rd Go.Vabs.Re Go.Vabs.Ca Go.Vabs.Cb Go.Vabs.Cc Go.Vabs.Cd Go.Vabs.Ce Go.Vabs.Vc
attribute [local simp] step_nilchk nilchk_ptr step_box cells_int cells_bool cells_str cells_slice cells_ptr cells_agg fieldAddrV natOf_zero fill repN splice over newV step_appendZ
  wp_dreg wpDs_nil wpDs_cons wantedE_none wantedE_some wpDGuard_true wpDGuard_lim wpDGuard_false wpDLim_true wpDVal_free wpDVal_lim back_limited next_limited limF_dir limF_false foot_load foot_store foot_convStr okAll_nil okAll_cons pastsOf nthP ahead few_next load_limited convStr_limited blt_dec okPair_dd okPair_dc okPair_cd okPair_cc anyIn_nil anyIn_same anyIn_cons meets_nil meets_nil'
  tl_alloc tl_load tl_load0 tl_store tl_store0 storeT_some loadC_some cellsAt_zero cellsAt_succ ownAt_zero ownAt_succ tl_store_d tl_alloc_dir tl_back tl_back_few few_back_tl tl_next backv_some back_back cut takeN nbeq_dec ble_dec meets_cons mem_nil mem_cons idOf load_d convStr_d
/- LAWS BY RUNS -/
def EntryL (f : FnT) : Prop := ∀ os v bs (s : Sz) (f0 l0 fr k : Nat), See os v bs → isNil v = false → OneSub bs s f0 l0 fr → s.first ≤ k → k ≤ s.last → f0 ≤ k → k ≤ l0 → k ≤ 70000 →
  f [.agg (szV s), v, .int .i64 (k : Int)] (few os) = some (.tuple [.int .i64 ((k - f0 : Nat) : Int), .int .i64 ((s.at_ + fr : Nat) : Int), .int .i64 0], few os)
theorem EntryL.auto {base : CallT} {g lf it nP nC n2 n4 : Nat} (hlf : 70 ≤ lf) (h2 : UF 2 base n2) (h4 : UF 4 base n4) (hP : PartF base nP) (hC : ChunkF it base nC) : EntryL (withL base g (lawOf (autoRd base lf (Cc.entry_c it nP nC n2 n4))) g) := fun os v bs s f0 l0 fr k hv hn hS a b c d e => by
  refine auto_flat (by simp [goods, V.good, szV, hv.good]) rfl rfl fun Y hY => ?_
  obtain ⟨os', e', _⟩ := Entry5F.code (g := g) hlf h2 h4 hP hC Y v bs s f0 l0 fr k (hv.cov hY).at hn hv.plain hS a b c d e
  rw [withF_same] at e'
  exact ⟨_, e'⟩
def EntryNoL (f : FnT) : Prop := ∀ os v bs (s : Sz) (k : Int), See os v bs → (k < s.first ∨ s.last < k) → f [.agg (szV s), v, .int .i64 k] (few os) = some (.tuple [.int .i64 0, .int .i64 0, .int .i64 6], few os)
theorem EntryNoL.auto {base : CallT} {g lf it nP nC n2 n4 : Nat} : EntryNoL (withL base g (lawOf (autoRd base lf (Cc.entry_c it nP nC n2 n4))) g) := fun os v bs s k hv hk => by
  refine auto_flat (by simp [goods, V.good, szV, hv.good]) rfl rfl fun Y hY => ?_
  obtain ⟨os', e', _⟩ := Entry5NoF.code (base := base) (g := g) (lf := lf) (it := it) (nP := nP) (nC := nC) (n2 := n2) (n4 := n4) Y v s k hk hv.plain
  rw [withF_same] at e'
  exact ⟨_, e'⟩
def PlacedL (f : FnT) : Prop := ∀ os v bs (a k x t : Nat) (y : Int), See os v bs → bs.length ≤ 5000000 → num bs ((a + 4 * k : Nat) : Int) 4 = some x → num bs ((a + 4 * k + 4 : Nat) : Int) 4 = some t → a + 4 * k ≤ 5000000 →
  f [v, .int .i64 (a : Int), .int .i64 1, .int .i64 (k : Int), .int .i64 y] (few os) = some (.tuple [.agg [.int .i64 (x : Int), .int .i64 (t : Int), .slice none 0 0 0 true], .int .i64 0], few os)
theorem PlacedL.auto {base : CallT} {g lf nR nA nS nT : Nat} (hR : Pair5F base nR) : PlacedL (withL base g (lawOf (autoRd base lf (Cc.placed_c nR nA nS nT))) g) := fun os v bs a k x t y hv hl h1 h2 h3 => by
  refine auto_flat (by simp [goods, V.good, hv.good]) rfl rfl fun Y hY => ?_
  obtain ⟨l, e'⟩ := Placed5F.code (g := g) (lf := lf) (nA := nA) (nS := nS) (nT := nT) hR Y v bs a k x t y (hv.cov hY).at hv.plain hl h1 h2 h3
  rw [withF_same] at e'
  exact ⟨_, e'⟩
def ChosenL (f : FnT) : Prop := ∀ os q L (p : Int), (L ≠ [] → (os[q]?).join = some (.cells true (elV szV L))) → L.length ≤ 64 → f [elS 5 q L.length, .int .i64 p] (few os) = some (.tuple [.agg (szV ((chosenZ p L).getD zS)), .bool (chosenZ p L).isSome], few os)
theorem szV_flat {L : List Sz} : (elV szV L).all V.flat = true := by
  unfold elV
  rw [List.all_eq_true]
  intro v hv
  obtain ⟨l, h1, h2⟩ := List.mem_flatten.1 hv
  obtain ⟨a, _, rfl⟩ := List.mem_map.1 h1
  unfold szV at h2
  simp at h2
  rcases h2 with rfl | rfl | rfl | rfl | rfl <;> rfl
theorem ChosenL.auto {base : CallT} {g lf : Nat} (hlf : 70 ≤ lf) : ChosenL (withL base g (lawOf (autoRd base lf chosen5_c)) g) := fun os q L p h hL => by
  refine auto_flat ?_ rfl rfl fun Y hY => ?_
  · by_cases h0 : L = []
    · subst h0; rfl
    · have := join_lt (h h0)
      have hn : L.length ≠ 0 := fun e => h0 (List.length_eq_zero_iff.1 e)
      simp [goods, elS, hn, V.good]; exact this
  · obtain ⟨l, e'⟩ := ChosenZF.code (base := base) (g := g) hlf Y q L p (fun h0 => cov_cells hY (h h0) (flats_good szV_flat)) hL
    rw [withF_same] at e'
    exact ⟨_, e'⟩
def sizesO (L : List Sz) : List (Option AObj) := if L = [] then [] else [some (.cells true (elV szV L))]
def SizesL (f : FnT) : Prop := ∀ os v bs L, See os v bs → isNil v = false → SizesOk bs L → f [v] (few os) = some (.tuple [elS 5 os.length L.length, .int .i64 0], few (os ++ sizesO L))
theorem SizesL.auto {base : CallT} {g lf n1 n2 n4 nP nC it : Nat} (hlf : 70 ≤ lf) (h1 : UF 1 base n1) (h2 : UF 2 base n2) (h4 : UF 4 base n4) (hP : PartF base nP) (hC : ChunkF it base nC) : SizesL (withL base g (lawOf (autoRd base lf (sizesOf_c it n2 n4 nP nC n1))) g) := fun os v bs L hv hn hS => by
  have hg : goods os.length [v] = true := by simp [goods, hv.good]
  have run : ∀ Y, covers (few os) Y → ∃ q os', enterF base lf [v] (few Y) (sizesOf_c it n2 n4 nP nC n1) = some (.tuple [elS 5 q L.length, .int .i64 0], few os') ∧ (L ≠ [] → (os'[q]?).join = some (.cells true (elV szV L)) ∧ os.length ≤ q) := fun Y hY => by
    obtain ⟨q, os', e1, e2, e3, e4⟩ := Sizes_run (lf := lf) hlf h1 h2 h4 hP hC (hv.cov hY).at hn hS
    exact ⟨q, os', e1, fun h0 => ⟨(e2 h0).2, by have := (e2 h0).1; rw [cov_len hY] at this; exact this⟩⟩
  unfold sizesO
  by_cases h0 : L = []
  · rw [if_pos h0, List.append_nil]
    subst h0
    refine auto_flat hg rfl rfl fun Y hY => ?_
    obtain ⟨q, os', e, _⟩ := run Y hY
    exact ⟨_, e⟩
  · rw [if_neg h0]
    have hne : L.length ≠ 0 := fun e => h0 (List.length_eq_zero_iff.1 e)
    refine auto_one (cs := elV szV L) (F := fun p => .tuple [elS 5 p L.length, .int .i64 0]) hg szV_flat (fun p => ⟨?_, ?_, fun n hn => ?_⟩) fun Y hY => ?_
    · simp [ids2, ids1, elS, hne, idOf]
    · simp [ok2, ok1, elS, hne, V.leads, V.flat]
    · simp [rn2, rn1, elS, hne, rn0, rn, Nat.not_lt.2 hn]
    · obtain ⟨q, os', e, k⟩ := run Y hY
      obtain ⟨k1, k2⟩ := k h0
      exact ⟨q, os', e, k2, k1⟩
/-- An image, anew. -/
def ImageL (f : FnT) : Prop := ∀ os v d (x y : Int) png (m : V), See os v d → isNil v = false → m.flat = true → Img17 d x y png →
  f [v, .int .i64 17, m] (few os) = some (.tuple [.agg [.int .i64 x, .int .i64 y, .int .i64 0, .slice (some (os.length, 0)) 1 png.length png.length false], .int .i64 0], few (os ++ [some (newBytes png)]))
theorem flat_plain {m : V} (h : m.flat = true) : m.plain = true := by cases m <;> first | rfl | cases h
theorem ImageL.auto {base : CallT} {g lf nP n4 : Nat} (hP : PartF base nP) (h4 : UF 4 base n4) : ImageL (withL base g (lawOf (autoRd base lf (Cc.imageC_c nP n4))) g) := fun os v d x y png m hv hn hm hI => by
  refine auto_one (cs := bytesV png) (F := fun p => .tuple [.agg [.int .i64 x, .int .i64 y, .int .i64 0, .slice (some (p, 0)) 1 png.length png.length false], .int .i64 0]) (by simp [goods, hv.good, flat_good hm, V.good]) (List.all_eq_true.2 bytesV_flat) (fun p => ⟨rfl, ?_, fun n hn => ?_⟩) fun Y hY => ?_
  · simp [ok2, ok1, V.leads, V.flat]
  · simp [rn2, rn1, rn0, rn, Nat.not_lt.2 hn]
  · obtain ⟨l, e, k1, k2⟩ := Image5F.code (g := g) (lf := lf) hP h4 Y v d x y png m (hv.cov hY).at hn hv.plain (flat_plain hm) hI
    rw [withF_same] at e
    exact ⟨_, _, e, by rw [cov_len hY]; omega, by rw [tl_at]; exact k1⟩

end Go.Vabs.Cf
