/-
  Lines of colours: bent places, the law.
-/
import Derived.Test.YtefgofmjfaobpaaVabsFr
namespace Go.Vabs.Ln
set_option linter.unusedVariables false
set_option linter.unusedSimpArgs false
set_option maxRecDepth 10000
attribute [local simp] wp_skip wp_ret wp_exit wp_reg wp_seq wp_cond wp_block thenQ_normal thenQ_ret thenQ_exit blockQ_normal blockQ_ret blockQ_exit wpCond_true wpCond_false wpOps_nil wpVal_some wpGuard_true wpGuard_false wpOps_guard wpOps_cons
  put_at put_no ev_c ev_slot posEq_h posEq_o posEq_i posEq_ho posEq_hi posEq_oh posEq_ih posEq_oi posEq_io sel_true sel_false
  okv_some step_mv step_call step_pick pickV_bool step_bin bin_add bin_sub bin_mul bin_eql bin_neq bin_lss bin_leq bin_gtr bin_geq bin_eqb bin_neb bin_eqs bin_nes step_un un_not un_neg step_len len_slice len_str len_const step_extract extractV nth step_convInt conv_int step_convStr step_slice step_idxAddr natOf_nat step_load step_index step_field step_fieldAddr step_build step_minmax
  step_alloc step_bslice bsliceV_some newV_some step_store step_append boolIs_b boolIs_t finQ_ret finQ_normal ressE_nil ressE_cons resE_tmp consO_some initE_nil initE_cons pos_0 pos_1 pos_2 pos_3 pos_4 pos_5 pos_6 pos_7 pos_8 plain_bool plain_int plain_str plain_ptr plain_slice plain_map plain_agg plain_func plain_nilFunc V.undef oneOf_one oneOf_two ble_self bin_agg eqV_parts eqV_int eqV_bool eqV_str eqParts_nil eqParts_cons eqC_true eqC_false eqO_some eqR_eql eqR_neq
attribute [local simp] wp_dreg wpDs_nil wpDs_cons wantedE_none wantedE_some wpDGuard_true wpDGuard_lim wpDGuard_false wpDLim_true wpDVal_free wpDVal_lim back_limited next_limited foot_convStr foot_load foot_store foot_alloc foot_box foot_bslice foot_append foot_call okAll_nil okAll_cons pastsOf nthP
  wpRounds_succ roundQ_normal roundQ_ret roundQ_exit cells_int cells_bool cells_str cells_agg cells_slice few_alloc lawOut_nil lawOut_one step_box newV alloc_dir backv back_back back_few next_back few_next resE_cell first_fewC grow_none grow_some cellsAt_zero cellsAt_succ ownAt_zero ownAt_succ loadC_some storeC_some firstC_some growC_some load_d convStr_d convStr_d0 store_d append_d2 append_d1 first_d2 first_d1 cut takeN nth splice over idOf okPair_dd okPair_dc okPair_cd okPair_cc anyIn_nil anyIn_same meets_nil meets_nil' meets_cons mem_nil mem_cons nbeq_dec blt_dec ble_dec fill repN firstNo lenOf fieldAddrV fieldV part natOf_zero natOf_one
open Go.Vabs.Ph Go.Vabs.Fl
def StopsF (call : CallT) (g : Nat) : Prop := ∀ (st : St) (s : V) (near : Bool) (ns : List Int), flatAt st 1 s = some (intsV .i64 ns) → lenOf s = some ns.length → isSl s = true → (∀ n ∈ ns, inI n) → ns.length ≤ 140737488351232 → call g [s, .bool near] st = lawOut (some (madeA (stopsL near ns))) st
theorem stops_fact {call : CallT} {g : Nat} : StopsF (withL call g (lawOf (oneRd shapeH 1 stopsS))) g := by
  intro st s near ns h1 h2 h4 h5 h6
  have hp : shapeH.pick [s, .bool near] = some (s, [.bool near]) := by
    show (if _ then _ else _) = _
    rw [if_pos (by first | exact ⟨rfl, h4⟩ | exact ⟨h4, rfl⟩)]
  rw [one_call hp h1 h2]
  show lawOut (match intsOf (intsV .i64 ns) with | some ns' => if ns.length ≤ 140737488351232 then some (madeA (stopsL near ns')) else none | none => none) st = _
  rw [intsOf_ints h5]
  dsimp only
  rw [if_pos h6]
theorem StopsF.other {call : CallT} {n g : Nat} {l : List V → St → Option (V × St)} (h : StopsF call n) (hne : n ≠ g) : StopsF (withL call g l) n := fun st s near ns a b c d e => by rw [withL_other hne]; exact h st s near ns a b c d e
theorem CloneSF.other {call : CallT} {n g : Nat} {l : List V → St → Option (V × St)} (h : CloneSF call n) (hne : n ≠ g) : CloneSF (withL call g l) n :=
  ⟨fun e m c f st => by rw [withL_other hne]; exact h.1 e m c f st, fun os i own a => by rw [withL_other hne]; exact h.2.1 os i own a, fun os i own m cs a b c d => by rw [withL_other hne]; exact h.2.2 os i own m cs a b c d⟩
structure BentF (call : CallT) (g : Nat) : Prop where
  full : ∀ (st : St) (s : V) (ext : Int) (l : List Stop) (a b : Stop) (t : Int), flatAt st 5 s = some (enc l) → lenOf s = some l.length → isSl s = true → l[0]? = some a → l[l.length - 1]? = some b → inB a.off → inB b.off → a.off ≤ b.off → l.length < 20 →
    call g [.agg [.int .i64 ext, s], .int .i64 t] st = some (.int .i64 (bentV ext a.off (b.off - a.off) (clip t)), st)
  none : ∀ (st : St) (ext t : Int), call g [.agg [.int .i64 ext, .slice none 0 0 0 true], .int .i64 t] st = some (.int .i64 (clip t), st)
theorem bent_fact {call : CallT} {g : Nat} : BentF (withL call g (lawOf (oneRd shapeA 5 bentS))) g := by
  constructor
  · intro st s ext l a b t h1 h2 h4 ha hb h5 h6 h7 h8
    have hp : shapeA.pick [.agg [.int .i64 ext, s], .int .i64 t] = some (s, [.int .i64 ext, .int .i64 t]) := by
      show (if (V.int .i64 ext).flat = true ∧ isSl s = true ∧ (V.int .i64 t).flat = true then some (s, [V.int .i64 ext, V.int .i64 t]) else Option.none) = _
      rw [if_pos ⟨rfl, h4, rfl⟩]
    rw [one_call hp h1 h2]
    have e : bentS [.int .i64 ext, .int .i64 t] (isNil s) l.length (enc l) = some ([], fun _ => .int .i64 (bentV ext a.off (b.off - a.off) (clip t))) := by
      unfold bentS
      dsimp only
      rw [stopsOf_enc]
      dsimp only
      rw [ha, hb]
      dsimp only
      rw [if_pos ⟨decide_eq_true h5, decide_eq_true h6, h7, h8⟩]
    rw [e]
    rfl
  · intro st ext t
    have hp : shapeA.pick [.agg [.int .i64 ext, .slice .none 0 0 0 true], .int .i64 t] = some (.slice .none 0 0 0 true, [.int .i64 ext, .int .i64 t]) := rfl
    rw [one_call (n := 0) (cs := []) hp rfl rfl]
    rfl
theorem BentF.other {call : CallT} {n g : Nat} {l : List V → St → Option (V × St)} (h : BentF call n) (hne : n ≠ g) : BentF (withL call g l) n :=
  ⟨fun st s ext l a b t h1 h2 h3 h4 h5 h6 h7 h8 h9 => by rw [withL_other hne]; exact h.full st s ext l a b t h1 h2 h3 h4 h5 h6 h7 h8 h9, fun st ext t => by rw [withL_other hne]; exact h.none st ext t⟩
theorem BentF.withF {call : CallT} {n g lf : Nat} {fn : AFunc} (h : BentF call n) (hne : n ≠ g) : BentF (Vabs.withF call g lf fn) n :=
  ⟨fun st s ext l a b t h1 h2 h3 h4 h5 h6 h7 h8 h9 => by rw [withF_other hne]; exact h.full st s ext l a b t h1 h2 h3 h4 h5 h6 h7 h8 h9, fun st ext t => by rw [withF_other hne]; exact h.none st ext t⟩
theorem pairs_le : ∀ (l : List Int) (k : Nat), (pairs k l).length ≤ k := fun l k => by rw [pairs_len]; omega
/-- In order: the first is not above the last. -/
theorem srt_ends {l : List Stop} {a b : Stop} (ha : (srt l)[0]? = some a) (hb : (srt l)[(srt l).length - 1]? = some b) : a.off ≤ b.off := by
  have hl : 0 < (srt l).length := (List.getElem?_eq_some_iff.1 ha).1
  rw [srt_len] at hl
  have h := sinks_least (key := Stop.off) less_iff (l.length - 1) 1 (l.map clipS) (by omega) (by rw [List.length_map]; omega) (fun k x y hk hx hy => by
    have hk0 : k = 0 := by omega
    subst hk0
    rw [hx] at hy
    cases hy
    exact Int.le_refl _)
  rw [List.length_map] at h
  refine h (l.length - 1) a b (Nat.le_refl _) ha ?_
  rw [srt_len] at hb
  exact hb

set_option maxHeartbeats 4000000 in
theorem bends_run {call : CallT} {ns nn nu nk nb np lf : Nat} (hst : StopsF call ns) (hnew : NewF call nn) (hnum : NumHF call nu) (hkn : ∀ st, call nk [] st = some (.bool true, st)) (hb : BentF call nb) (hp : PickF call np)
    {nil near : Bool} {zs : List Int} {t k : Int} (h1 : nil = true → zs = []) (h2 : ∀ n ∈ zs, inI n) (h3 : zs.length ≤ 140737488351232) (ht : inI t) (hk : inI k) :
    ∃ s1, enterF call lf [slAt nil 0 zs.length, .bool near, .int .i64 t, .int .i64 k] (few [objOf nil (intsV .i64 zs)]) (Bends_c ns nn nu nk nb np) = some (.bool true, s1) := by
  have hs0 : call ns [slAt nil 0 zs.length, .bool near] (few [objOf nil (intsV .i64 zs)]) = lawOut (some (madeA (stopsL near zs))) (few [objOf nil (intsV .i64 zs)]) :=
    hst _ _ near zs (flatAt_mem (nil := nil) (n := zs.length) (e := 1) (fun hn => ⟨by rw [h1 hn]; rfl, by rw [h1 hn]; rfl⟩) (by rw [intsV_len, Nat.mul_one]) (List.all_eq_true.2 fun v hv => by
      unfold intsV at hv
      simp only [List.mem_map] at hv
      obtain ⟨n, _, rfl⟩ := hv
      rfl)) (by rfl) (by cases nil <;> rfl) h2 h3
  have htn := numI_in ht
  have hnt := fun st => hnum t st ht
  have hpk := fun st => hp k 5 st (by omega) (by omega)
  have hpb := pickI_lt (n := k) (m := 5) (by omega)
  generalize hK : pickI k 5 = K at hpk hpb
  obtain ⟨T, hT⟩ : ∃ T, T = Int.tmod (numI t) 536870912 := ⟨_, rfl⟩
  have hT1 := Int.lt_tmod_of_pos (numI t) (show (0 : Int) < 536870912 by omega)
  have hT2 := Int.tmod_lt_of_pos (numI t) (show (0 : Int) < 536870912 by omega)
  rw [← hT] at hT1 hT2
  generalize numI t = NT at htn hnt hT
  have hcT : clip T = T := clip_id (by omega) (by omega)
  generalize objOf nil (intsV .i64 zs) = o0 at hs0 ⊢
  generalize slAt nil 0 zs.length = sv at hs0 ⊢
  have hLl : (stopsL near zs).length ≤ 12 := by
    unfold stopsL
    rw [List.length_map]
    exact pairs_le zs 12
  have hok : ∀ s ∈ stopsL near zs, s.ok := fun s hs => by
    unfold stopsL at hs
    simp only [List.mem_map] at hs
    obtain ⟨p, _, rfl⟩ := hs
    exact stopI_ok near p
  generalize stopsL near zs = L at hs0 hLl hok
  by_cases hL : L = []
  · subst hL
    have hs1 : call ns [sv, .bool near] (few [o0]) = some (.slice none 0 0 0 true, few [o0]) := hs0
    have hn1 : ∀ ext st, call nn [.int .i64 ext, .slice none 0 0 0 true] st = some (.agg [.int .i64 ext, .slice none 0 0 0 true], st) := fun ext st => hnew st _ ext [] rfl rfl (by decide) rfl
    refine enter_ex ?_
    simp (disch := omega) [hs1, hn1, hnt, hkn, hpk, hb.none, hcT, bin_rem, ← hT, wrap_i, load_fewC, store_fewC]
  · obtain ⟨x, hx⟩ : ∃ x, x = L.length := ⟨_, rfl⟩
    have hx0 : 1 ≤ x := by
      have : L.length ≠ 0 := fun h => hL (List.length_eq_zero_iff.1 h)
      omega
    have hSl : (srt L).length = x := by rw [srt_len, hx]
    have hsok : ∀ s ∈ srt L, inB s.off ∧ s.ok := srt_in hok
    obtain ⟨a, ha⟩ : ∃ a, (srt L)[0]? = some a := ⟨_, List.getElem?_eq_getElem (by omega)⟩
    obtain ⟨b, hb'⟩ : ∃ b, (srt L)[x - 1]? = some b := ⟨_, List.getElem?_eq_getElem (by omega)⟩
    have hab : a.off ≤ b.off := srt_ends ha (by rw [hSl]; exact hb')
    have ina := (hsok a (List.mem_of_getElem? ha)).1
    have inb := (hsok b (List.mem_of_getElem? hb')).1
    have hfL : (enc L).all V.flat = true := List.all_eq_true.2 (enc_flat hok)
    have hfS : (enc (srt L)).all V.flat = true := List.all_eq_true.2 (enc_flat fun s hs => (hsok s hs).2)
    have heL : (enc L).length = x * 5 := by rw [enc_len]; omega
    have heS : (enc (srt L)).length = x * 5 := by rw [enc_len]; omega
    have hs1 : call ns [sv, .bool near] (few [o0]) = some (.slice (some (1, 0)) 5 x x false, few [o0, some (.cells true (enc L))]) := by
      rw [hs0]
      unfold madeA
      rw [if_neg hL, ← hx]
      simp
    have hn1 : ∀ ext, call nn [.int .i64 ext, .slice (some (1, 0)) 5 x x false] (few [o0, some (.cells true (enc L))]) = some (.agg [.int .i64 ext, .slice (some (2, 0)) 5 x x false], few [o0, some (.cells true (enc L)), some (.cells true (enc (srt L)))]) := fun ext => by
      rw [hnew _ _ ext L (flatAt_few (own := true) (cs := enc L) rfl (Nat.le_refl _) (by omega) (by rw [List.drop_zero, List.take_of_length_le (by omega)]) hfL) (by rw [← hx]; rfl) (by omega) rfl]
      unfold newA
      rw [if_neg (show ¬ isNil (.slice (some (1, 0)) 5 x x false) = true from fun h : false = true => by cases h), ← hx]
      simp
    have hn2 : ∀ ext c2, call nn [.int .i64 ext, .slice (some (1, 0)) 5 x x false] (few [o0, some (.cells true (enc L)), some (.cells true (enc (srt L))), c2]) = some (.agg [.int .i64 ext, .slice (some (4, 0)) 5 x x false], few [o0, some (.cells true (enc L)), some (.cells true (enc (srt L))), c2, some (.cells true (enc (srt L)))]) := fun ext c2 => by
      rw [hnew _ _ ext L (flatAt_few (own := true) (cs := enc L) rfl (Nat.le_refl _) (by omega) (by rw [List.drop_zero, List.take_of_length_le (by omega)]) hfL) (by rw [← hx]; rfl) (by omega) rfl]
      unfold newA
      rw [if_neg (show ¬ isNil (.slice (some (1, 0)) 5 x x false) = true from fun h : false = true => by cases h), ← hx]
      simp
    have hb1 : ∀ ext t c3 c4 c5, call nb [.agg [.int .i64 ext, .slice (some (2, 0)) 5 x x false], .int .i64 t] (few [o0, some (.cells true (enc L)), some (.cells true (enc (srt L))), c3, c4, c5]) = some (.int .i64 (bentV ext a.off (b.off - a.off) (clip t)), few [o0, some (.cells true (enc L)), some (.cells true (enc (srt L))), c3, c4, c5]) := fun ext t c3 c4 c5 =>
      hb.full _ _ ext (srt L) a b t (flatAt_few (own := true) (cs := enc (srt L)) rfl (Nat.le_refl _) (by omega) (by rw [List.drop_zero, List.take_of_length_le (by omega)]) hfS) (by rw [hSl]; rfl) rfl ha (by rw [hSl]; exact hb') ina inb hab (by omega)
    have hb2 : ∀ ext t c2 c3 c5, call nb [.agg [.int .i64 ext, .slice (some (4, 0)) 5 x x false], .int .i64 t] (few [o0, some (.cells true (enc L)), c2, c3, some (.cells true (enc (srt L))), c5]) = some (.int .i64 (bentV ext a.off (b.off - a.off) (clip t)), few [o0, some (.cells true (enc L)), c2, c3, some (.cells true (enc (srt L))), c5]) := fun ext t c2 c3 c5 =>
      hb.full _ _ ext (srt L) a b t (flatAt_few (own := true) (cs := enc (srt L)) rfl (Nat.le_refl _) (by omega) (by rw [List.drop_zero, List.take_of_length_le (by omega)]) hfS) (by rw [hSl]; rfl) rfl ha (by rw [hSl]; exact hb') ina inb hab (by omega)
    have i0 : idxAddrV (.slice 5) (.slice (some (2, 0)) 5 x x false) (some 0) = some (.ptr (some (2, 0))) := by
      refine (idxAddr_slice (i := 2) (o := 0) (k := 0) (n := x) (by omega)).trans ?_
      rfl
    have i1 : idxAddrV (.slice 5) (.slice (some (2, 0)) 5 x x false) (some (x - 1)) = some (.ptr (some (2, (x - 1) * 5))) := by
      refine (idxAddr_slice (i := 2) (o := 0) (k := x - 1) (n := x) (by omega)).trans ?_
      rw [Nat.zero_add]
    have l0 : ∀ c3 c4 c5, loadV (few [o0, some (.cells true (enc L)), some (.cells true (enc (srt L))), c3, c4, c5]) false 1 (.ptr (some (2, 0))) = some (.int .i64 a.off) := fun c3 c4 c5 => by
      have := load_off (os := [o0, some (.cells true (enc L)), some (.cells true (enc (srt L))), c3, c4, c5]) (i := 2) (own := true) rfl ha
      rw [Nat.zero_mul] at this
      exact this
    have l1 : ∀ c3 c4 c5, loadV (few [o0, some (.cells true (enc L)), some (.cells true (enc (srt L))), c3, c4, c5]) false 1 (.ptr (some (2, (x - 1) * 5))) = some (.int .i64 b.off) := fun c3 c4 c5 =>
      load_off (os := [o0, some (.cells true (enc L)), some (.cells true (enc (srt L))), c3, c4, c5]) (i := 2) (own := true) rfl hb'
    have wn : natOf (.int .i64 ((x : Int) - 1)) = some (x - 1) := by
      rw [natOf_int (by omega)]
      congr 1
      omega
    generalize hx5 : (x - 1) * 5 = x5 at i1 l1
    unfold inB at ina inb
    generalize a.off = f at *
    generalize hbo : b.off = z at *
    generalize enc (srt L) = eS at *
    generalize enc L = eL at *
    by_cases hzf : z = f
    · have e1 : ∀ ext t, bentV ext f (z - f) t = t := fun ext t => by unfold bentV; rw [if_pos (by omega)]
      refine enter_ex ?_
      simp (disch := omega) [hs1, hn1, hn2, hnt, hkn, hpk, hcT, bin_rem, ← hT, wrap_i, load_fewC, store_fewC, i0, i1, l0, l1, wn, hb1, hb2, e1, deq_t, deq_f, deqn_t, deqn_f]
    · obtain ⟨N, hN⟩ : ∃ N, N = z - f := ⟨_, rfl⟩
      have hN0 : 0 < N := by omega
      rw [← hN] at hb1 hb2
      have e1 : ∀ t, -2147483647 ≤ t → t ≤ 2147483647 → bentV 1 f N (clip t) = repeatI f N t := fun t q1 q2 => by unfold bentV; rw [if_neg (by omega), if_pos rfl, clip_id q1 q2]
      have e2 : ∀ t, -2147483647 ≤ t → t ≤ 2147483647 → bentV 2 f N (clip t) = reflectI f N t := fun t q1 q2 => by unfold bentV; rw [if_neg (by omega), if_neg (by decide), if_pos rfl, clip_id q1 q2]
      have A1 := repeat_in (t := T) (f := f) hN0
      have B1 := reflect_in (t := T) (f := f) hN0
      have A2 := repeat_self (f := f) (t := T) (n := N)
      have B2 := reflect_self (f := f) (t := T) (n := N)
      have A3 := repeat_whole (f := f) (t := T) hN0
      have A4 := repeat_far (f := f) (t := T) (k := K - 2) hN0
      have B4 := reflect_far (f := f) (t := T) (k := K - 2) hN0
      have B5 := reflect_mirror (f := f) (t := T) hN0
      obtain ⟨Q, hQ⟩ : ∃ Q, Q = K - 2 := ⟨_, rfl⟩
      rw [← hQ] at A4 B4
      have hQ1 : Q = -2 ∨ Q = -1 ∨ Q = 0 ∨ Q = 1 ∨ Q = 2 := by omega
      have hP1 : -17179869184 ≤ 2 * Q * N ∧ 2 * Q * N ≤ 17179869184 := by rcases hQ1 with h | h | h | h | h <;> rw [h] <;> omega
      generalize hP : 2 * Q * N = P at A4 B4 hP1
      have hlast : z = f + N := by omega
      have hb3 : ∀ t c3 c4 c5, -2147483647 ≤ t → t ≤ 2147483647 → call nb [.agg [.int .i64 1, .slice (some (2, 0)) 5 x x false], .int .i64 t] (few [o0, some (.cells true eL), some (.cells true eS), c3, c4, c5]) = some (.int .i64 (repeatI f N t), few [o0, some (.cells true eL), some (.cells true eS), c3, c4, c5]) := fun t c3 c4 c5 q1 q2 => by rw [hb1, e1 t q1 q2]
      have hb4 : ∀ t c2 c3 c5, -2147483647 ≤ t → t ≤ 2147483647 → call nb [.agg [.int .i64 2, .slice (some (4, 0)) 5 x x false], .int .i64 t] (few [o0, some (.cells true eL), c2, c3, some (.cells true eS), c5]) = some (.int .i64 (reflectI f N t), few [o0, some (.cells true eL), c2, c3, some (.cells true eS), c5]) := fun t c2 c3 c5 q1 q2 => by rw [hb2, e2 t q1 q2]
      have hb5 := fun c3 c4 c5 => hb3 T c3 c4 c5 (by omega) (by omega)
      have hb6 := fun c2 c3 c5 => hb4 T c2 c3 c5 (by omega) (by omega)
      have hb7 : -2147483647 ≤ T + P → T + P ≤ 2147483647 → _ := fun q1 q2 c3 c4 c5 => hb3 (T + P) c3 c4 c5 q1 q2
      have hb8 : -2147483647 ≤ T + P → T + P ≤ 2147483647 → _ := fun q1 q2 c2 c3 c5 => hb4 (T + P) c2 c3 c5 q1 q2
      have hb9 : -2147483647 ≤ 2 * f - T → 2 * f - T ≤ 2147483647 → _ := fun q1 q2 c2 c3 c5 => hb4 (2 * f - T) c2 c3 c5 q1 q2
      rw [A4] at hb7
      rw [B4] at hb8
      rw [B5] at hb9
      generalize repeatI f N T = A at *
      generalize reflectI f N T = B at *
      clear hb3 hb4 hb1 hb2 hb
      have hz : z - f = N := hN.symm
      have hKQ : K - 2 = Q := hQ.symm
      have eneg : Int.negSucc 1073741823 = -1073741824 := rfl
      refine enter_ex ?_
      by_cases c1 : f ≤ T <;> by_cases c2 : T < f + N <;> by_cases c3 : -1073741824 < T + P <;> by_cases c4 : T + P < 1073741824 <;> by_cases c5 : -1073741824 < f <;> by_cases c6 : N < 1073741824 <;> by_cases c7 : 2 * f - T < -1073741824 <;> by_cases c8 : 1073741824 < 2 * f - T <;> first | (exfalso; omega) | skip
      all_goals
        have a2 : f ≤ T → T < f + N → A = T ∧ B = T := fun q1 q2 => ⟨A2 q1 q2, B2 q1 q2⟩
        clear A2 B2
        simp (disch := omega) [hs1, hn1, hn2, hnt, hkn, hpk, bin_rem, ← hT, wrap_i, load_fewC, store_fewC, i0, i1, l0, l1, wn, hb5, hb6, hb7, hb8, hb9, hz, hKQ, hP, A3, eneg, deq_t, deq_f, deqn_t, deqn_f, dlt_t, dlt_f, dle_t, dle_f, dltn_t, dltn_f]

end Go.Vabs.Ln
