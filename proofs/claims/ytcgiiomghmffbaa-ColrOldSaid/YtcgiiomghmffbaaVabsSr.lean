/- Lemmas for this claim, text Sr. No condition. -/
import Derived.Test.YtcgiiomghmffbaaVabsSp
namespace Go.Vabs.Sr
set_option linter.unusedVariables false
set_option linter.unusedSimpArgs false
set_option maxRecDepth 10000
def RLay_c (n_Big : Nat) : AFunc := AFunc.mk 96 (.seq (.reg [AOper.mk (some (.i (.o .h))) (.mv (.c (.slice none 0 0 0 true))) none, AOper.mk (some (.o (.i .h))) (.mv (.c (.bool false))) none]) (.seq (.reg [AOper.mk (some (.o (.i (.i .h)))) (.len .slice (.t .h)) none, AOper.mk (some (.i (.i .h))) (.mv (.t (.o (.i (.i .h))))) none]) (.seq (.seq (.reg [AOper.mk (some (.i (.o (.o (.o .h))))) (.len .slice (.t (.o .h))) none, AOper.mk (some (.o (.i (.o (.o .h))))) (.bin .neq (.val .int) (.t (.i (.i .h))) (.t (.i (.o (.o (.o .h)))))) none, AOper.mk (some (.i (.i (.o (.o .h))))) (.mv (.t (.o (.i (.o (.o .h)))))) none, AOper.mk (some (.i (.o (.i (.o .h))))) (.bin .gtr (.val .int) (.t (.i (.i .h))) (.c (.int .i64 (.ofNat 64)))) (some (.i (.i (.o (.o .h))), false)), AOper.mk (some (.o (.i (.i (.o .h))))) (.pick (.t (.i (.i (.o (.o .h))))) (.c (.bool true)) (.t (.i (.o (.i (.o .h)))))) none]) (.cond (.t (.o (.i (.i (.o .h))))) (.seq (.reg [AOper.mk (some (.i (.o .h))) (.mv (.c (.slice none 0 0 0 true))) none, AOper.mk (some (.o (.i .h))) (.mv (.c (.bool false))) none]) .ret) .skip)) (.seq (.reg [AOper.mk (some (.i (.i (.i (.o .h))))) (.bslice 1 4 [.int .u8 (.ofNat 0)] [(0, (1, .c (.int .u8 (.ofNat 0)))), (1, (1, .c (.int .u8 (.ofNat 1)))), (2, (1, .c (.int .u8 (.ofNat 0)))), (3, (1, .c (.int .u8 (.ofNat 0))))]) none, AOper.mk (some (.i (.o (.o (.i .h))))) (.call n_Big [.t (.i (.i .h)), .c (.int .i64 (.ofNat 2))]) none, AOper.mk (some (.o (.i (.o (.i .h))))) (.append 1 1 (.t (.i (.i (.i (.o .h))))) (.t (.i (.o (.o (.i .h)))))) none, AOper.mk (some (.o (.o (.o .h)))) (.mv (.t (.o (.i (.o (.i .h)))))) none]) (.seq (.reg [AOper.mk (some (.o (.o (.i (.i .h))))) (.appendZ 1 1 [.int .u8 (.ofNat 0)] (.t (.o (.o (.o .h)))) (.c (.int .i64 (.ofNat 6)))) none, AOper.mk (some (.o (.o (.o .h)))) (.mv (.t (.o (.o (.i (.i .h)))))) none]) (.seq (.reg [AOper.mk (some (.o (.i (.i (.i .h))))) (.bin .mul (.val .int) (.c (.int .i64 (.ofNat 16))) (.t (.i (.i .h)))) none, AOper.mk (some (.i (.i (.i (.i .h))))) (.bin .add (.val .int) (.c (.int .i64 (.ofNat 12))) (.t (.o (.i (.i (.i .h)))))) none, AOper.mk (some (.i (.o (.o .h)))) (.mv (.t (.i (.i (.i (.i .h)))))) none]) (.seq (.seq (.reg [AOper.mk (some (.o (.i (.o .h)))) (.mv (.c (.int .i64 (.ofNat 0)))) none]) (.block 0 (.loop (.seq (.seq (.reg [AOper.mk (some (.o (.i (.o (.o (.o .h)))))) (.bin .lss (.val .int) (.t (.o (.i (.o .h)))) (.t (.i (.i .h)))) none]) (.cond (.t (.o (.i (.o (.o (.o .h)))))) .skip (.exit 0))) (.seq (.block 1 (.seq (.seq (.reg [AOper.mk (some (.i (.i (.o .h)))) (.mv (.c (.int .i64 (.ofNat 0)))) none]) (.block 2 (.loop (.seq (.seq (.reg [AOper.mk (some (.i (.i (.i (.o (.o .h)))))) (.bin .lss (.val .int) (.t (.i (.i (.o .h)))) (.t (.o (.i (.o .h))))) none]) (.cond (.t (.i (.i (.i (.o (.o .h)))))) .skip (.exit 2))) (.seq (.block 3 (.seq (.dreg [(AOper.mk (some (.o (.i (.o (.i (.o .h)))))) (.mv (.t .h)) none, []), (AOper.mk (some (.i (.i (.o (.i (.o .h)))))) (.mv (.t (.i (.i (.o .h))))) none, []), (AOper.mk (some (.o (.o (.i (.i (.o .h)))))) (.idxAddr (.slice 1) (.t (.o (.i (.o (.i (.o .h)))))) (.t (.i (.i (.o (.i (.o .h))))))) none, []), (AOper.mk (some (.i (.o (.i (.i (.o .h)))))) (.load false 1 (.t (.o (.o (.i (.i (.o .h))))))) none, [7]), (AOper.mk (some (.o (.i (.i (.i (.o .h)))))) (.mv (.t .h)) none, []), (AOper.mk (some (.i (.i (.i (.i (.o .h)))))) (.mv (.t (.o (.i (.o .h))))) none, []), (AOper.mk (some (.o (.o (.o (.o (.i .h)))))) (.idxAddr (.slice 1) (.t (.o (.i (.i (.i (.o .h)))))) (.t (.i (.i (.i (.i (.o .h))))))) none, []), (AOper.mk (some (.i (.o (.o (.o (.i .h)))))) (.load false 1 (.t (.o (.o (.o (.o (.i .h))))))) none, [3]), (AOper.mk (some (.o (.i (.o (.o (.i .h)))))) (.bin .eql (.val .str) (.t (.i (.o (.i (.i (.o .h)))))) (.t (.i (.o (.o (.o (.i .h))))))) none, [])]) (.cond (.t (.o (.i (.o (.o (.i .h)))))) (.seq (.reg [AOper.mk (some (.i (.o .h))) (.mv (.c (.slice none 0 0 0 true))) none, AOper.mk (some (.o (.i .h))) (.mv (.c (.bool false))) none]) .ret) .skip))) (.reg [AOper.mk (some (.i (.o (.o (.i (.o .h)))))) (.bin .add (.val .int) (.t (.i (.i (.o .h)))) (.c (.int .i64 (.ofNat 1)))) none, AOper.mk (some (.i (.i (.o .h)))) (.mv (.t (.i (.o (.o (.i (.o .h))))))) none])))))) (.seq (.seq (.reg [AOper.mk (some (.i (.o (.i (.o (.i .h)))))) (.idxAddr (.slice 1) (.t .h) (.t (.o (.i (.o .h))))) none, AOper.mk (some (.o (.i (.i (.o (.i .h)))))) (.load false 1 (.t (.i (.o (.i (.o (.i .h))))))) none, AOper.mk (some (.i (.i (.i (.o (.i .h)))))) (.len .str (.t (.o (.i (.i (.o (.i .h))))))) none, AOper.mk (some (.o (.o (.o (.i (.i .h)))))) (.bin .neq (.val .int) (.t (.i (.i (.i (.o (.i .h)))))) (.c (.int .i64 (.ofNat 4)))) none]) (.cond (.t (.o (.o (.o (.i (.i .h)))))) (.seq (.reg [AOper.mk (some (.i (.o .h))) (.mv (.c (.slice none 0 0 0 true))) none, AOper.mk (some (.o (.i .h))) (.mv (.c (.bool false))) none]) .ret) .skip)) (.seq (.reg [AOper.mk (some (.o (.o (.i (.i (.i .h)))))) (.idxAddr (.slice 1) (.t .h) (.t (.o (.i (.o .h))))) none, AOper.mk (some (.i (.o (.i (.i (.i .h)))))) (.load false 1 (.t (.o (.o (.i (.i (.i .h))))))) none, AOper.mk (some (.o (.i (.i (.i (.i .h)))))) (.append 1 1 (.t (.o (.o (.o .h)))) (.t (.i (.o (.i (.i (.i .h))))))) none, AOper.mk (some (.o (.o (.o .h)))) (.mv (.t (.o (.i (.i (.i (.i .h))))))) none]) (.seq (.reg [AOper.mk (some (.o (.o (.o (.o (.o (.o .h))))))) (.bslice 1 4 [.int .u8 (.ofNat 0)] [(0, (1, .c (.int .u8 (.ofNat 0)))), (1, (1, .c (.int .u8 (.ofNat 0)))), (2, (1, .c (.int .u8 (.ofNat 0)))), (3, (1, .c (.int .u8 (.ofNat 0))))]) none, AOper.mk (some (.i (.o (.o (.o (.o (.o .h))))))) (.append 1 1 (.t (.o (.o (.o .h)))) (.t (.o (.o (.o (.o (.o (.o .h)))))))) none, AOper.mk (some (.o (.o (.o .h)))) (.mv (.t (.i (.o (.o (.o (.o (.o .h)))))))) none]) (.seq (.reg [AOper.mk (some (.o (.o (.i (.o (.o (.o .h))))))) (.call n_Big [.t (.i (.o (.o .h))), .c (.int .i64 (.ofNat 4))]) none, AOper.mk (some (.i (.o (.i (.o (.o (.o .h))))))) (.append 1 1 (.t (.o (.o (.o .h)))) (.t (.o (.o (.i (.o (.o (.o .h)))))))) none, AOper.mk (some (.o (.o (.o .h)))) (.mv (.t (.i (.o (.i (.o (.o (.o .h)))))))) none]) (.seq (.reg [AOper.mk (some (.i (.o (.o (.i (.o (.o .h))))))) (.idxAddr (.slice 1) (.t (.o .h)) (.t (.o (.i (.o .h))))) none, AOper.mk (some (.o (.i (.o (.i (.o (.o .h))))))) (.load false 1 (.t (.i (.o (.o (.i (.o (.o .h)))))))) none, AOper.mk (some (.i (.i (.o (.i (.o (.o .h))))))) (.len .slice (.t (.o (.i (.o (.i (.o (.o .h)))))))) none, AOper.mk (some (.o (.o (.i (.i (.o (.o .h))))))) (.call n_Big [.t (.i (.i (.o (.i (.o (.o .h)))))), .c (.int .i64 (.ofNat 4))]) none, AOper.mk (some (.i (.o (.i (.i (.o (.o .h))))))) (.append 1 1 (.t (.o (.o (.o .h)))) (.t (.o (.o (.i (.i (.o (.o .h)))))))) none, AOper.mk (some (.o (.o (.o .h)))) (.mv (.t (.i (.o (.i (.i (.o (.o .h)))))))) none]) (.reg [AOper.mk (some (.i (.o (.o (.o (.i (.o .h))))))) (.idxAddr (.slice 1) (.t (.o .h)) (.t (.o (.i (.o .h))))) none, AOper.mk (some (.o (.i (.o (.o (.i (.o .h))))))) (.load false 1 (.t (.i (.o (.o (.o (.i (.o .h)))))))) none, AOper.mk (some (.i (.i (.o (.o (.i (.o .h))))))) (.len .slice (.t (.o (.i (.o (.o (.i (.o .h)))))))) none, AOper.mk (some (.o (.o (.i (.o (.i (.o .h))))))) (.bin .add (.val .int) (.t (.i (.o (.o .h)))) (.t (.i (.i (.o (.o (.i (.o .h)))))))) none, AOper.mk (some (.i (.o (.o .h)))) (.mv (.t (.o (.o (.i (.o (.i (.o .h)))))))) none])))))))) (.reg [AOper.mk (some (.o (.o (.i (.o (.o .h)))))) (.bin .add (.val .int) (.t (.o (.i (.o .h)))) (.c (.int .i64 (.ofNat 1)))) none, AOper.mk (some (.o (.i (.o .h)))) (.mv (.t (.o (.o (.i (.o (.o .h))))))) none])))))) (.seq (.seq (.reg [AOper.mk (some (.o (.o (.i .h)))) (.mv (.c (.int .i64 (.ofNat 0)))) none]) (.block 4 (.loop (.seq (.seq (.reg [AOper.mk (some (.i (.i (.i (.o (.i (.o .h))))))) (.bin .lss (.val .int) (.t (.o (.o (.i .h)))) (.t (.i (.i .h)))) none]) (.cond (.t (.i (.i (.i (.o (.i (.o .h))))))) .skip (.exit 4))) (.seq (.block 5 (.reg [AOper.mk (some (.i (.o (.i (.i (.i (.o .h))))))) (.idxAddr (.slice 1) (.t (.o .h)) (.t (.o (.o (.i .h))))) none, AOper.mk (some (.o (.i (.i (.i (.i (.o .h))))))) (.load false 1 (.t (.i (.o (.i (.i (.i (.o .h)))))))) none, AOper.mk (some (.i (.i (.i (.i (.i (.o .h))))))) (.append 1 1 (.t (.o (.o (.o .h)))) (.t (.o (.i (.i (.i (.i (.o .h)))))))) none, AOper.mk (some (.o (.o (.o .h)))) (.mv (.t (.i (.i (.i (.i (.i (.o .h)))))))) none])) (.reg [AOper.mk (some (.i (.o (.o (.i (.i (.o .h))))))) (.bin .add (.val .int) (.t (.o (.o (.i .h)))) (.c (.int .i64 (.ofNat 1)))) none, AOper.mk (some (.o (.o (.i .h)))) (.mv (.t (.i (.o (.o (.i (.i (.o .h)))))))) none])))))) (.seq (.reg [AOper.mk (some (.i (.o .h))) (.mv (.t (.o (.o (.o .h))))) none, AOper.mk (some (.o (.i .h))) (.mv (.c (.bool true))) none]) .ret))))))))) [.tmp (.i (.o .h)), .tmp (.o (.i .h))]
attribute [local simp] wp_skip wp_ret wp_exit wp_reg wp_seq wp_cond wp_block thenQ_normal thenQ_ret thenQ_exit blockQ_normal blockQ_ret blockQ_exit wpCond_true wpCond_false wpOps_nil wpVal_some wpGuard_true wpGuard_false wpOps_guard wpOps_cons
  put_at put_no ev_c ev_slot posEq_h posEq_o posEq_i posEq_ho posEq_hi posEq_oh posEq_ih posEq_oi posEq_io sel_true sel_false
  okv_some step_mv step_call step_pick pickV_bool step_bin bin_add bin_sub bin_mul bin_eql bin_neq bin_lss bin_leq bin_gtr bin_geq bin_eqb bin_neb bin_eqs bin_nes step_un un_not un_neg step_len len_slice len_str len_const step_extract extractV nth step_convInt conv_int step_convStr step_slice step_idxAddr natOf_nat step_load step_index step_field step_fieldAddr step_build step_minmax
  step_alloc step_bslice bsliceV_some newV_some step_store step_append boolIs_b boolIs_t finQ_ret finQ_normal ressE_nil ressE_cons resE_tmp consO_some initE_nil initE_cons pos_0 pos_1 pos_2 pos_3 pos_4 pos_5 pos_6 pos_7 pos_8 plain_bool plain_int plain_str plain_ptr plain_slice plain_map plain_agg plain_func plain_nilFunc V.undef oneOf_one oneOf_two ble_self
open Go.Vabs.Pk Go.Vabs.Ph Go.Vabs.Sa Go.Vabs.Sb Go.Vabs.Sc Go.Vabs.Sd Go.Vabs.Se Go.Vabs.Sg Go.Vabs.Sh Go.Vabs.Sm Go.Vabs.Sn Go.Vabs.Sp Go.Vabs.L2
attribute [local simp] step_nilchk nilchk_ptr cells_int cells_bool cells_str cells_slice cells_ptr cells_agg fieldAddrV natOf_zero fill repN splice over newV step_appendZ
  wp_dreg wpDs_nil wpDs_cons wantedE_none wantedE_some wpDGuard_true wpDGuard_lim wpDGuard_false wpDLim_true wpDVal_free wpDVal_lim back_limited next_limited limF_dir foot_load foot_convStr okAll_nil okAll_cons pastsOf nthP ahead few_next load_limited convStr_limited blt_dec okPair_dd okPair_dc okPair_cd okPair_cc anyIn_nil anyIn_same anyIn_cons meets_nil meets_nil'
structure GF (N : Nat) (os0 os : List (Option AObj)) (p : Nat) (bs : List Nat) : Prop where
  old : ∀ i, i < N → (os[i]?).join = (os0[i]?).join
  at_ : (os[p]?).join = some (newBytes bs)
  lo : N ≤ p ∧ N ≤ os.length
theorem GF.add {N : Nat} {os0 os : List (Option AObj)} {p : Nat} {bs : List Nat} (h : GF N os0 os p bs) (o : Option AObj) : GF N os0 (os ++ [o]) p bs :=
  ⟨fun i hi => by rw [join_app (by have := h.lo; omega), h.old i hi], by rw [join_app (join_lt h.at_)]; exact h.at_, by have := h.lo; simp; omega⟩
theorem GF.grow {N : Nat} {os0 os : List (Option AObj)} {p : Nat} {bs : List Nat} (h : GF N os0 os p bs) (nb : List Nat) (hs : bs.length + nb.length < 140737488354000) :
    ∃ p' os', appendV (few os) 1 1 (.slice (some (p, 0)) 1 bs.length bs.length false) (some nb.length) (some (bytesV nb)) = some (.slice (some (p', 0)) 1 (bs.length + nb.length) (bs.length + nb.length) false, few os') ∧ GF N os0 os' p' (bs ++ nb) := by
  obtain ⟨p', os', g, G⟩ := growB (nb := nb) h.at_ hs
  have hlo := h.lo
  have hn := G.new
  have hl := G.len
  exact ⟨p', os', g, ⟨fun i hi => by rw [G.old i (by omega) (by omega), h.old i hi], G.at', by omega⟩⟩
def RLayPost (os : List (Option AObj)) (tags ts : List (List Nat)) (u : V) (os' : List (Option AObj)) : Prop :=
  (∀ i, i < os.length → (os'[i]?).join = (os[i]?).join) ∧ os.length ≤ os'.length ∧
  match layS tags ts with
  | some l => ∃ p, u = .tuple [.slice (some (p, 0)) 1 l.length l.length false, .bool true] ∧ os.length ≤ p ∧ (os'[p]?).join = some (newBytes l)
  | none => u = .tuple [.slice none 0 0 0 true, .bool false]
theorem slT_len {st : St} {f : Bool} {q n : Nat} : lenV st .slice (slT f q n) = some (.int .i64 (n : Int)) := by unfold slT; split <;> (first | (rename_i h0; rw [h0]; rfl) | rfl)
set_option maxHeartbeats 2000000 in
theorem RLay_run {call : CallT} {lf nB : Nat} (hlf : 65 ≤ lf) (hBig : BigF call nB) {os : List (Option AObj)} {q r : Nat} {f1 f2 : Bool} {tags ts : List (List Nat)}
    (hq : tags ≠ [] → ∃ own, (os[q]?).join = some (.cells own (strsV tags))) (hr : RowsB os r ts) (hb1 : ∀ t ∈ tags, ∀ b ∈ t, b < 256) (hb2 : ∀ t ∈ ts, ∀ b ∈ t, b < 256) (hs1 : tags.length ≤ 1048576) (hs2 : ts.length ≤ 1048576) (hs : ts.flatten.length ≤ 140737488352800) :
    ∃ u os', enterF call lf [slT f1 q tags.length, slT f2 r ts.length] (few os) (RLay_c nB) = some (u, few os') ∧ RLayPost os tags ts u os' := by
  have main := enter_wp (call := call) (lf := lf) (n := 96) (args := [slT f1 q tags.length, slT f2 r ts.length]) (st := few os) (K := fun u st => ∃ os', st = few os' ∧ RLayPost os tags ts u os') (c := (RLay_c nB).code) (rs := (RLay_c nB).results) ?_
  · obtain ⟨u, st', h1, os', rfl, h2⟩ := main
    exact ⟨u, os', h1, h2⟩
  · unfold RLay_c
    dsimp only
    obtain ⟨n, hn⟩ : ∃ n, n = tags.length := ⟨_, rfl⟩
    obtain ⟨m, hm⟩ : ∃ m, m = ts.length := ⟨_, rfl⟩
    rw [← hn, ← hm]
    have len1 : ∀ st, lenV st .slice (slT f1 q n) = some (.int .i64 (n : Int)) := fun st => slT_len
    have len2 : ∀ st, lenV st .slice (slT f2 r m) = some (.int .i64 (m : Int)) := fun st => slT_len
    by_cases hnm : n = m
    · by_cases h64 : n ≤ 64
      · subst hnm
        obtain ⟨L, hL⟩ : ∃ L, L = tags.zip ts := ⟨_, rfl⟩
        have hLn : L.length = n := by rw [hL, List.length_zip]; omega
        have hflat : (flatT L).length = ts.flatten.length := by unfold flatT; rw [hL, zip_map2 (by omega)]
        obtain ⟨N, hN⟩ : ∃ N, N = os.length := ⟨_, rfl⟩
        obtain ⟨A1, hA1⟩ : ∃ A1, A1 = os ++ [some (newBytes [0, 1, 0, 0])] := ⟨_, rfl⟩
        have al1 : (few os).alloc (.cells true [.int .u8 0, .int .u8 1, .int .u8 0, .int .u8 0]) = some (N, few A1) := by rw [hA1, hN]; exact few_alloc os _
        have hA1l : A1.length = N + 1 := by rw [hA1]; simp [hN]
        obtain ⟨A2, hA2⟩ : ∃ A2, A2 = A1 ++ [some (newBytes (bigB n 2))] := ⟨_, rfl⟩
        have hA2l : A2.length = N + 2 := by rw [hA2]; simp [hA1l]
        have big1 : call nB [.int .i64 (n : Int), .int .i64 2] (few A1) = some (.slice (some (N + 1, 0)) 1 2 2 false, few A2) := by rw [hA2, ← hA1l]; exact hBig A1 n 2 (by omega) (by omega)
        have at2 : (A2[N]?).join = some (newBytes [0, 1, 0, 0]) := by rw [hA2, hA1]; exact keep_app (by rw [hN]; simp)
        have at3 : (A2[N + 1]?).join = some (newBytes (bigB n 2)) := by rw [hA2, ← hA1l]; simp
        have fi1 : firstN (few A2) 1 2 (.slice (some (N + 1, 0)) 1 2 2 false) = some (bytesV (bigB n 2)) := first_own (bs := bigB n 2) at3
        obtain ⟨A3, hA3⟩ : ∃ A3, A3 = A2 ++ [some (newBytes ([0, 1, 0, 0] ++ bigB n 2))] := ⟨_, rfl⟩
        have hA3l : A3.length = N + 3 := by rw [hA3]; simp [hA2l]
        have gr1 : appendV (few A2) 1 1 (.slice (some (N, 0)) 1 4 4 true) (some 2) (some (bytesV (bigB n 2))) = some (.slice (some (N + 2, 0)) 1 6 6 false, few A3) := by
          have := grow_fix (n := 4) (c := 4) (m := 1) (new := bytesV (bigB n 2)) at2 rfl (by rw [bytesV_len, bigB_len]) (by omega)
          rw [hA2l] at this
          rw [hA3]
          exact this.trans (by simp [newBytes, bytesV])
        have gf3 : GF N os A3 (N + 2) ([0, 1, 0, 0] ++ bigB n 2) := by
          refine ⟨fun i hi => ?_, ?_, by omega⟩
          · rw [hA3, join_app (by omega), hA2, join_app (by omega), hA1, join_app (by omega)]
          · rw [hA3, ← hA2l]; simp
        obtain ⟨p0, A4, gr2, gf4⟩ := gf3.grow [0, 0, 0, 0, 0, 0] (by simp [bigB_len])
        have gr2 : appendV (few A3) 1 1 (.slice (some (N + 2, 0)) 1 6 6 false) (some 6) (some [.int .u8 0, .int .u8 0, .int .u8 0, .int .u8 0, .int .u8 0, .int .u8 0]) = some (.slice (some (p0, 0)) 1 12 12 false, few A4) := gr2
        have hhead : [0, 1, 0, 0] ++ bigB n 2 ++ [0, 0, 0, 0, 0, 0] = headL n := by
          have : bigB n 2 = [n / 256 % 256, n % 256] := by simp [bigB]
          rw [this, show n / 256 % 256 = 0 from by omega, show n % 256 = n from by omega]
          rfl
        rw [hhead] at gf4
        have hnat6 : natOf (V.int .i64 6) = some 6 := rfl
        simp (disch := omega) [len1, len2, dlt_t, dlt_f, dle_t, dle_f, dltn_t, dltn_f, dlen_t, dlen_f, deq_t, deq_f, deqn_t, deqn_f, hnat6, repN, al1, big1, lenOf, firstNo, fi1, gr1, gr2, wrap_i]
        refine wp_loop (fun k s st => ∃ i X p, i + k = n ∧ st = few X ∧ (GF N os X p (headL n ++ recsL (12 + 16 * n) (L.take i)) ∧ (∀ t ∈ tags.take i, t.length = 4) ∧ (tags.take i).Nodup) ∧
          s .h = slT f1 q n ∧ s (.o .h) = slT f2 r n ∧ s (.i (.i .h)) = .int .i64 (n : Int) ∧ s (.o (.i (.o .h))) = .int .i64 (i : Int) ∧ s (.o (.o (.o .h))) = .slice (some (p, 0)) 1 (12 + 16 * i) (12 + 16 * i) false ∧ s (.i (.o (.o .h))) = .int .i64 ((12 + 16 * n + (flatT (L.take i)).length : Nat) : Int)) n ?_ (by omega) ?_
        · refine ⟨0, A4, p0, by omega, rfl, ⟨by simpa [recsL] using gf4, ?_, ?_⟩, ?_, ?_, ?_, ?_, ?_, ?_⟩
          · intro t ht; simp at ht
          · simp
          all_goals simp [flatT]
        · rintro k s st ⟨i, X0, p, hk, rfl, ⟨hfile, hlen4, hnd⟩, s1, s2, s3, s4, s5, s6⟩
          obtain ⟨B, hB⟩ : ∃ B, B = headL n ++ recsL (12 + 16 * n) (L.take i) := ⟨_, rfl⟩
          rw [← hB] at hfile
          have hX0l := hfile.lo.2
          have hX0k := hfile.old
          have hzt : L.take i = (tags.take i).zip (ts.take i) := by rw [hL, zip_take]
          have htag : Tagged (L.take i) := fun x hx => hlen4 x.1 (by rw [hzt] at hx; exact (List.of_mem_zip hx).1)
          have hBl : B.length = 12 + 16 * i := by rw [hB, List.length_append, headL_len, recsL_len htag, List.length_take]; omega
          cases k with
          | zero =>
            have hin : i = n := by omega
            subst hin
            rw [List.take_of_length_le (by omega)] at hnd hB htag
            have hlen4 : ∀ t ∈ tags, t.length = 4 := fun t ht => hlen4 t (by rw [List.take_of_length_le (by omega)]; exact ht)
            have hlay : layS tags ts = some (layL L) := by
              unfold layS
              rw [if_pos ⟨by omega, by omega, hlen4, hnd⟩, ← hL]
            have hlB : layL L = B ++ ts.flatten := by
              have : ts.flatten = flatT L := by unfold flatT; rw [hL, zip_map2 (by omega)]
              rw [this, hB, List.append_assoc]
              unfold layL
              rw [hLn]
            simp (disch := omega) [s1, s2, s3, s4, s5, s6, dlt_t, dlt_f, dle_t, dle_f, dltn_t, dltn_f, dlen_t, dlen_f, deq_t, deq_f, deqn_t, deqn_f]
            refine wp_loop (fun k s st => ∃ j X p F, j + k = i ∧ st = few X ∧ (GF N os X p (B ++ (ts.take j).flatten) ∧ F = sumT ts j) ∧
              s (.o .h) = slT f2 r i ∧ s (.i (.i .h)) = .int .i64 (i : Int) ∧ s (.o (.o (.o .h))) = .slice (some (p, 0)) 1 (12 + 16 * i + F) (12 + 16 * i + F) false ∧ s (.o (.o (.i .h))) = .int .i64 (j : Int)) i ?_ (by omega) ?_
            · refine ⟨0, X0, p, 0, by omega, rfl, ⟨by simpa using hfile, by simp [sumT]⟩, ?_, ?_, ?_, ?_⟩ <;> simp [s1, s2, s3, s4, s5, s6]
            · rintro k s st ⟨j, X, p, F, hk, rfl, ⟨hgf, hF⟩, z1, z2, z3, z4⟩
              have hF' := hF
              unfold sumT at hF
              have hFl : F ≤ ts.flatten.length := by rw [hF]; exact sum_le j
              cases k with
              | zero =>
                have hji : j = i := by omega
                subst hji
                rw [List.take_of_length_le (by omega), ← hlB] at hgf
                rw [List.take_of_length_le (by omega)] at hF
                simp (disch := omega) [z1, z2, z3, z4, dlt_t, dlt_f, dle_t, dle_f, dltn_t, dltn_f, dlen_t, dlen_f, deq_t, deq_f, deqn_t, deqn_f]
                refine ⟨X, rfl, fun i hi => hgf.old i (by omega), by have := hgf.lo; omega, ?_⟩
                rw [hlay]
                refine ⟨p, ?_, by have := hgf.lo; omega, hgf.at_⟩
                rw [hlB, List.length_append, hBl, ← hF]
              | succ k =>
                have hji : j < i := by omega
                obtain ⟨b, hb⟩ : ∃ b, ts[j]? = some b := ⟨_, List.getElem?_eq_getElem (by omega)⟩
                have hT2 : slT f2 r i = .slice (some (r, 0)) 1 i i f2 := if_neg (by omega)
                obtain ⟨w, ldw, _, hwl, _⟩ := (hr.keep (fun i hi => hgf.old i (by omega)) (by have := hgf.lo; omega)).at_ hb
                obtain ⟨w1, w2⟩ := first_bytes (lookB_at hwl)
                have hsum := sum_take hb
                have hsl := sum_le (bss := ts) (j + 1)
                rw [hsum, List.length_append] at hsl
                obtain ⟨p', Y, g, gf⟩ := hgf.grow b (by rw [List.length_append]; omega)
                have hbl : (B ++ (ts.take j).flatten).length = 12 + 16 * i + F := by rw [List.length_append, hBl, hF]
                rw [hbl] at g
                rw [List.append_assoc, ← hsum] at gf
                obtain ⟨z, hz⟩ : ∃ z, z = b.length := ⟨_, rfl⟩
                rw [← hz] at g w1 w2
                simp (disch := omega) [z1, z2, z3, z4, hT2, dlt_t, dlt_f, dle_t, dle_f, dltn_t, dltn_f, dlen_t, dlen_f, deq_t, deq_f, deqn_t, deqn_f, natOf_int, idxAddr_slice, ldw, w1, firstNo, w2, g, wrap_i]
                refine ⟨k, by omega, j + 1, by omega, Y, rfl, p', F + z, ⟨gf, by unfold sumT; rw [hsum, List.length_append, hF, hz]⟩, ⟨rfl, by omega⟩, by omega⟩
          | succ k =>
            have hin : i < n := by omega
            obtain ⟨t, ht⟩ : ∃ t, tags[i]? = some t := ⟨_, List.getElem?_eq_getElem (by omega)⟩
            obtain ⟨b, hb⟩ : ∃ b, ts[i]? = some b := ⟨_, List.getElem?_eq_getElem (by omega)⟩
            have hLi : L[i]? = some (t, b) := by rw [hL, List.getElem?_zip_eq_some]; exact ⟨ht, hb⟩
            have hT1 : slT f1 q n = .slice (some (q, 0)) 1 n n f1 := if_neg (by omega)
            have hT2 : slT f2 r n = .slice (some (r, 0)) 1 n n f2 := if_neg (by omega)
            obtain ⟨own, hq1⟩ := hq (fun e => by rw [e] at ht; simp at ht)
            have hqX : (X0[q]?).join = some (.cells own (strsV tags)) := by rw [hX0k q (by rw [hN]; exact join_lt hq1)]; exact hq1
            have ldt : loadV (few X0) false 1 (.ptr (some (q, i))) = some (.str t) := by rw [load_few hqX, strsV_at, ht]; rfl
            simp (disch := omega) [s1, s2, s3, s4, s5, s6, dlt_t, dlt_f, dle_t, dle_f, dltn_t, dltn_f, dlen_t, dlen_f, deq_t, deq_f, deqn_t, deqn_f]
            refine wp_loop (fun k2 s st => ∃ j, j + k2 = i ∧ st = few X0 ∧ (∀ x ∈ tags.take j, x ≠ t) ∧
              s .h = slT f1 q n ∧ s (.o .h) = slT f2 r n ∧ s (.i (.i .h)) = .int .i64 (n : Int) ∧ s (.o (.i (.o .h))) = .int .i64 (i : Int) ∧ s (.o (.o (.o .h))) = .slice (some (p, 0)) 1 (12 + 16 * i) (12 + 16 * i) false ∧ s (.i (.o (.o .h))) = .int .i64 ((12 + 16 * n + (flatT (L.take i)).length : Nat) : Int) ∧ s (.i (.i (.o .h))) = .int .i64 (j : Int)) i ?_ (by omega) ?_
            · refine ⟨0, by omega, rfl, ?_, ?_, ?_, ?_, ?_, ?_, ?_, ?_⟩
              · intro x hx; simp at hx
              all_goals simp [s1, s2, s3, s4, s5, s6]
            · rintro k2 s st ⟨j, hk2, rfl, hne, s1, s2, s3, s4, s5, s6, s7⟩
              cases k2 with
              | succ k2 =>
                have hji : j < i := by omega
                obtain ⟨x, hx⟩ : ∃ x, tags[j]? = some x := ⟨_, List.getElem?_eq_getElem (by omega)⟩
                have ldx : loadV (few X0) false 1 (.ptr (some (q, j))) = some (.str x) := by rw [load_few hqX, strsV_at, hx]; rfl
                by_cases hxt : x = t
                · subst hxt
                  simp (disch := omega) [s1, s2, s3, s4, s5, s6, s7, hT1, dlt_t, dlt_f, dle_t, dle_f, dltn_t, dltn_f, dlen_t, dlen_f, deq_t, deq_f, deqn_t, deqn_f, natOf_int, idxAddr_slice, ldt, ldx, load_d, idOf, ble_dec, nbeq_dec, meets_cons, mem_cons, mem_nil, back_limF, next_limF]
                  refine ⟨X0, rfl, fun i hi => hX0k i (by omega), by omega, ?_⟩
                  rw [layS_no (fun h => by
                    have := nodup_at' h.2.2.2 hx ht
                    omega)]
                · simp (disch := omega) [s1, s2, s3, s4, s5, s6, s7, hT1, dlt_t, dlt_f, dle_t, dle_f, dltn_t, dltn_f, dlen_t, dlen_f, deq_t, deq_f, deqn_t, deqn_f, natOf_int, idxAddr_slice, ldt, ldx, hxt, load_d, idOf, ble_dec, nbeq_dec, meets_cons, mem_cons, mem_nil, back_limF, next_limF, wrap_i]
                  refine ⟨k2, by omega, j + 1, by omega, fun y hy => ?_, by omega⟩
                  rw [List.take_add_one, hx] at hy
                  rcases List.mem_append.1 hy with hy | hy
                  · exact hne y hy
                  · simp at hy; rw [hy]; exact hxt
              | zero =>
                have hji : j = i := by omega
                subst hji
                have hmem : ¬ t ∈ tags.take j := fun h => hne t h rfl
                obtain ⟨tl, htl⟩ : ∃ tl, tl = t.length := ⟨_, rfl⟩
                by_cases h4 : tl = 4
                · have ht4 : t.length = 4 := by omega
                  have hfl : (flatT (L.take j)).length + b.length ≤ (flatT L).length := flat_le hLi
                  obtain ⟨a, ha⟩ : ∃ a, a = 12 + 16 * n + (flatT (L.take j)).length := ⟨_, rfl⟩
                  rw [← ha] at s6
                  obtain ⟨z, hz⟩ : ∃ z, z = b.length := ⟨_, rfl⟩
                  have fi1 : ∀ st, firstN st 1 4 (.str t) = some (bytesV t) := by
                    intro st
                    match t, ht4 with
                    | [_, _, _, _], _ => rfl
                  have lo1 : lenOf (.str t) = some 4 := by show some t.length = _; rw [ht4]
                  obtain ⟨p1, Y1, g1, gf1⟩ := hfile.grow t (by omega)
                  rw [hBl, ht4] at g1
                  have l1 : (B ++ t).length = 12 + 16 * j + 4 := by rw [List.length_append, hBl, ht4]
                  obtain ⟨y1, hy1⟩ : ∃ y1, Y1.length = y1 := ⟨_, rfl⟩
                  obtain ⟨Y2, hY2⟩ : ∃ Y2, Y2 = Y1 ++ [some (newBytes [0, 0, 0, 0])] := ⟨_, rfl⟩
                  have al2 : (few Y1).alloc (.cells true [.int .u8 0, .int .u8 0, .int .u8 0, .int .u8 0]) = some (y1, few Y2) := by rw [hY2, ← hy1]; exact few_alloc Y1 _
                  have fi2 : firstN (few Y2) 1 4 (.slice (some (y1, 0)) 1 4 4 true) = some (bytesV [0, 0, 0, 0]) := first_own (bs := [0, 0, 0, 0]) (by rw [hY2, ← hy1]; simp)
                  have gf2 := gf1.add (some (newBytes [0, 0, 0, 0]))
                  rw [← hY2] at gf2
                  obtain ⟨p3, Y3, g3, gf3⟩ := gf2.grow [0, 0, 0, 0] (by simp only [List.length_cons, List.length_nil]; omega)
                  rw [l1] at g3
                  have g3 : appendV (few Y2) 1 1 (.slice (some (p1, 0)) 1 (12 + 16 * j + 4) (12 + 16 * j + 4) false) (some 4) (some (bytesV [0, 0, 0, 0])) = some (.slice (some (p3, 0)) 1 (12 + 16 * j + 4 + 4) (12 + 16 * j + 4 + 4) false, few Y3) := g3
                  have l3 : (B ++ t ++ [0, 0, 0, 0]).length = 12 + 16 * j + 4 + 4 := by rw [List.length_append, l1]; rfl
                  obtain ⟨y3, hy3⟩ : ∃ y3, Y3.length = y3 := ⟨_, rfl⟩
                  obtain ⟨Y4, hY4⟩ : ∃ Y4, Y4 = Y3 ++ [some (newBytes (bigB a 4))] := ⟨_, rfl⟩
                  have big4 : call nB [.int .i64 (a : Int), .int .i64 4] (few Y3) = some (.slice (some (y3, 0)) 1 4 4 false, few Y4) := by rw [hY4, ← hy3]; exact hBig Y3 a 4 (by omega) (by omega)
                  have fi4 : firstN (few Y4) 1 4 (.slice (some (y3, 0)) 1 4 4 false) = some (bytesV (bigB a 4)) := first_own (bs := bigB a 4) (by rw [hY4, ← hy3]; simp)
                  have gf4 := gf3.add (some (newBytes (bigB a 4)))
                  rw [← hY4] at gf4
                  obtain ⟨p5, Y5, g5, gf5⟩ := gf4.grow (bigB a 4) (by rw [bigB_len]; omega)
                  rw [l3, bigB_len] at g5
                  have l5 : (B ++ t ++ [0, 0, 0, 0] ++ bigB a 4).length = 12 + 16 * j + 4 + 4 + 4 := by rw [List.length_append, l3, bigB_len]
                  obtain ⟨w, ldw, _, hwl, _⟩ := (hr.keep (fun i hi => gf5.old i (by omega)) (by have := gf5.lo; omega)).at_ hb
                  have hzl : ∀ st', lenV st' .slice w = some (.int .i64 (z : Int)) := fun st' => by rw [hz]; exact len_bytes (st' := st') (lookB_at hwl)
                  obtain ⟨y5, hy5⟩ : ∃ y5, Y5.length = y5 := ⟨_, rfl⟩
                  obtain ⟨Y6, hY6⟩ : ∃ Y6, Y6 = Y5 ++ [some (newBytes (bigB z 4))] := ⟨_, rfl⟩
                  have big6 : call nB [.int .i64 (z : Int), .int .i64 4] (few Y5) = some (.slice (some (y5, 0)) 1 4 4 false, few Y6) := by rw [hY6, ← hy5]; exact hBig Y5 z 4 (by omega) (by omega)
                  have fi6 : firstN (few Y6) 1 4 (.slice (some (y5, 0)) 1 4 4 false) = some (bytesV (bigB z 4)) := first_own (bs := bigB z 4) (by rw [hY6, ← hy5]; simp)
                  have gf6 := gf5.add (some (newBytes (bigB z 4)))
                  rw [← hY6] at gf6
                  obtain ⟨p7, Y7, g7, gf7⟩ := gf6.grow (bigB z 4) (by rw [bigB_len]; omega)
                  rw [l5, bigB_len] at g7
                  have hR7 := hr.keep (fun i hi => gf7.old i (by omega)) (by have := gf7.lo; omega)
                  obtain ⟨w7, ldw7, _, hwl7, _⟩ := hR7.at_ hb
                  have hzl7 : ∀ st', lenV st' .slice w7 = some (.int .i64 (z : Int)) := fun st' => by rw [hz]; exact len_bytes (st' := st') (lookB_at hwl7)
                  have hLs : L.take (j + 1) = L.take j ++ [(t, b)] := by rw [List.take_add_one, hLi]; rfl
                  have hCe : B ++ t ++ [0, 0, 0, 0] ++ bigB a 4 ++ bigB z 4 = headL n ++ recsL (12 + 16 * n) (L.take (j + 1)) := by
                    rw [hB, hLs, recsL_snoc, ← ha]
                    simp [recL, hz]
                  rw [hCe] at gf7
                  simp (disch := omega) [s1, s2, s3, s4, s5, s6, s7, hT1, hT2, dlt_t, dlt_f, dle_t, dle_f, dltn_t, dltn_f, dlen_t, dlen_f, deq_t, deq_f, deqn_t, deqn_f, natOf_int, idxAddr_slice, ldt, ht4, firstNo, fi1, g1, al2, lenOf, fi2, g3, big4, fi4, g5, ldw, hzl, big6, fi6, g7, ldw7, hzl7, wrap_i]
                  refine ⟨k, by omega, j + 1, by omega, Y7, rfl, p7, ⟨gf7, fun t' ht' => ?_, ?_⟩, by omega, ⟨rfl, by omega⟩, ?_⟩
                  · rw [List.take_add_one, ht] at ht'
                    rcases List.mem_append.1 ht' with h | h
                    · exact hlen4 t' h
                    · simp at h; rw [h]; exact ht4
                  · rw [List.take_add_one, ht]
                    refine List.nodup_append.2 ⟨hnd, by simp, fun x hx y hy => ?_⟩
                    simp at hy
                    rw [hy]
                    exact fun e => hmem (e ▸ hx)
                  · rw [hLs, flatT_snoc, List.length_append]
                    show (a : Int) + (z : Int) = 12 + 16 * (n : Int) + (((flatT (L.take j)).length + b.length : Nat) : Int)
                    omega
                · simp (disch := omega) [s1, s2, s3, s4, s5, s6, s7, hT1, dlt_t, dlt_f, dle_t, dle_f, dltn_t, dltn_f, dlen_t, dlen_f, deq_t, deq_f, deqn_t, deqn_f, natOf_int, idxAddr_slice, ldt, ← htl]
                  refine ⟨X0, rfl, fun i hi => hX0k i (by omega), by omega, ?_⟩
                  rw [layS_no (fun h => h4 (by rw [htl]; exact h.2.2.1 t (List.mem_of_getElem? ht)))]
      · simp (disch := omega) [len1, len2, dlt_t, dlt_f, dle_t, dle_f, dltn_t, dltn_f, dlen_t, dlen_f, deq_t, deq_f, deqn_t, deqn_f, wrap_i]
        refine ⟨os, rfl, fun i hi => rfl, Nat.le_refl _, ?_⟩
        rw [layS_no (fun h => by omega)]
    · simp (disch := omega) [len1, len2, dlt_t, dlt_f, dle_t, dle_f, dltn_t, dltn_f, dlen_t, dlen_f, deq_t, deq_f, deqn_t, deqn_f]
      refine ⟨os, rfl, fun i hi => rfl, Nat.le_refl _, ?_⟩
      rw [layS_no (fun h => by omega)]
def RLayF (call : CallT) (g : Nat) : Prop := ∀ os q r f1 f2 tags ts, (tags ≠ [] → ∃ own, (os[q]?).join = some (.cells own (strsV tags))) → RowsB os r ts → (∀ t ∈ tags, ∀ b ∈ t, b < 256) → (∀ t ∈ ts, ∀ b ∈ t, b < 256) → tags.length ≤ 1048576 → ts.length ≤ 4096 → ts.flatten.length ≤ 140737488352800 →
  ∃ u os', call g [slT f1 q tags.length, slT f2 r ts.length] (few os) = some (u, few os') ∧ RLayPost os tags ts u os'
theorem RLayF.code {base : CallT} {g lf nB : Nat} (hlf : 65 ≤ lf) (hB : BigF base nB) : RLayF (Vabs.withF base g lf (RLay_c nB)) g := fun os q r f1 f2 tags ts h1 h2 h3 h4 h5 h6 h7 => by
  rw [withF_same]; exact RLay_run hlf hB h1 h2 h3 h4 h5 (by omega) h7
end Go.Vabs.Sr

namespace Go.Vabs.St
set_option linter.unusedVariables false
set_option linter.unusedSimpArgs false
set_option maxRecDepth 10000
attribute [local simp] wp_skip wp_ret wp_exit wp_reg wp_seq wp_cond wp_block thenQ_normal thenQ_ret thenQ_exit blockQ_normal blockQ_ret blockQ_exit wpCond_true wpCond_false wpOps_nil wpVal_some wpGuard_true wpGuard_false wpOps_guard wpOps_cons
  put_at put_no ev_c ev_slot posEq_h posEq_o posEq_i posEq_ho posEq_hi posEq_oh posEq_ih posEq_oi posEq_io sel_true sel_false
  okv_some step_mv step_call step_pick pickV_bool step_bin bin_add bin_sub bin_mul bin_eql bin_neq bin_lss bin_leq bin_gtr bin_geq bin_eqb bin_neb bin_eqs bin_nes step_un un_not un_neg step_len len_slice len_str len_const step_extract extractV nth step_convInt conv_int step_convStr step_slice step_idxAddr natOf_nat step_load step_index step_field step_fieldAddr step_build step_minmax
  step_alloc step_bslice bsliceV_some newV_some step_store step_append boolIs_b boolIs_t finQ_ret finQ_normal ressE_nil ressE_cons resE_tmp consO_some initE_nil initE_cons pos_0 pos_1 pos_2 pos_3 pos_4 pos_5 pos_6 pos_7 pos_8 plain_bool plain_int plain_str plain_ptr plain_slice plain_map plain_agg plain_func plain_nilFunc V.undef oneOf_one oneOf_two ble_self
open Go.Vabs.Pk Go.Vabs.Ph Go.Vabs.Sa Go.Vabs.Sb Go.Vabs.Sc Go.Vabs.Sd Go.Vabs.Se Go.Vabs.Sg Go.Vabs.Sh Go.Vabs.Sm Go.Vabs.Sn Go.Vabs.Sp Go.Vabs.Sr Go.Vabs.L2
attribute [local simp] step_nilchk nilchk_ptr cells_int cells_bool cells_str cells_slice cells_ptr cells_agg fieldAddrV natOf_zero fill repN splice over newV step_appendZ
  wp_dreg wpDs_nil wpDs_cons wantedE_none wantedE_some wpDGuard_true wpDGuard_lim wpDGuard_false wpDLim_true wpDVal_free wpDVal_lim back_limited next_limited limF_dir foot_load foot_convStr okAll_nil okAll_cons pastsOf nthP ahead few_next load_limited convStr_limited blt_dec okPair_dd okPair_dc okPair_cd okPair_cc anyIn_nil anyIn_same anyIn_cons meets_nil meets_nil'
structure ParI (os : List (Option AObj)) (v : V) (zs : List Int) : Prop where
  ex : ∃ a r, v = .slice a 1 zs.length zs.length false ∧ (zs ≠ [] → a = some (r, 0) ∧ ∃ own, (os[r]?).join = some (.cells own (zs.map fun n => V.int .i64 n)))
  lt : ∀ n ∈ zs, -9223372036854775808 ≤ n ∧ n < 9223372036854775808
theorem ints_param {os : List (Option AObj)} {v : V} {l : List Int} (h : ShowsRow (cInt .i64) os v l) (hok : ∀ n ∈ l, (cInt .i64).ok n) : ParI os v l := by
  refine ⟨?_, fun n hn => i64_of_wf (hok n hn)⟩
  rcases h with ⟨rfl, rfl⟩ | ⟨i, cs, rfl, h1, h2, h3⟩
  · exact ⟨none, 0, rfl, fun h => absurd rfl h⟩
  · have hcs : cs = l.map fun n => V.int .i64 n := row_cells rfl h2 h3 fun us a h => h
    exact ⟨some (i, 0), i, rfl, fun _ => ⟨rfl, false, by rw [← hcs]; exact h1⟩⟩
theorem ParI.keep {os os' : List (Option AObj)} {v : V} {zs : List Int} (h : ParI os v zs) (he : ∀ i, i < os.length → (os'[i]?).join = (os[i]?).join) : ParI os' v zs := by
  obtain ⟨a, r, h1, h2⟩ := h.ex
  exact ⟨⟨a, r, h1, fun hne => by obtain ⟨h3, own, h4⟩ := h2 hne; exact ⟨h3, own, by rw [he r (join_lt h4)]; exact h4⟩⟩, h.lt⟩
end Go.Vabs.St
