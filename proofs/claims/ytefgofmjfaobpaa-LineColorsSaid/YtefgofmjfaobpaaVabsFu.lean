/-
  Pixels: mixed, divided.
-/
import Derived.Test.YtefgofmjfaobpaaVabsFt
namespace Go.Vabs.Ln
set_option linter.unusedVariables false
set_option linter.unusedSimpArgs false
set_option maxRecDepth 10000
attribute [local simp] wp_skip wp_ret wp_exit wp_reg wp_seq wp_cond wp_block thenQ_normal thenQ_ret thenQ_exit blockQ_normal blockQ_ret blockQ_exit wpCond_true wpCond_false wpOps_nil wpVal_some wpGuard_true wpGuard_false wpOps_guard wpOps_cons
  put_at put_no ev_c ev_slot posEq_h posEq_o posEq_i posEq_ho posEq_hi posEq_oh posEq_ih posEq_oi posEq_io sel_true sel_false
  okv_some step_mv step_call step_pick pickV_bool step_bin bin_add bin_sub bin_mul bin_eql bin_neq bin_lss bin_leq bin_gtr bin_geq bin_eqb bin_neb bin_eqs bin_nes step_un un_not un_neg step_len len_slice len_str len_const step_extract extractV nth step_convInt conv_int step_convStr step_slice step_idxAddr natOf_nat step_load step_index step_field step_fieldAddr step_build step_minmax
  step_alloc step_bslice bsliceV_some newV_some step_store step_append boolIs_b boolIs_t finQ_ret finQ_normal ressE_nil ressE_cons resE_tmp consO_some initE_nil initE_cons pos_0 pos_1 pos_2 pos_3 pos_4 pos_5 pos_6 pos_7 pos_8 plain_bool plain_int plain_str plain_ptr plain_slice plain_map plain_agg plain_func plain_nilFunc V.undef oneOf_one oneOf_two ble_self bin_agg eqV_parts eqV_int eqV_bool eqV_str eqParts_nil eqParts_cons eqC_true eqC_false eqO_some eqR_eql eqR_neq
attribute [local simp] wp_dreg wpDs_nil wpDs_cons wantedE_none wantedE_some wpDGuard_true wpDGuard_lim wpDGuard_false wpDLim_true wpDVal_free wpDVal_lim back_limited next_limited foot_convStr foot_load foot_store foot_alloc foot_box foot_bslice foot_append foot_call okAll_nil okAll_cons pastsOf nthP
  wpRounds_succ roundQ_normal roundQ_ret roundQ_exit cells_int cells_bool cells_str cells_agg cells_slice few_alloc lawOut_nil lawOut_one step_box newV alloc_dir backv back_back back_few next_back few_next resE_cell first_fewC grow_none grow_some cellsAt_zero cellsAt_succ ownAt_zero ownAt_succ loadC_some storeC_some firstC_some growC_some load_d convStr_d convStr_d0 store_d append_d2 append_d1 first_d2 first_d1 cut takeN nth splice over idOf okPair_dd okPair_dc okPair_cd okPair_cc anyIn_nil anyIn_same meets_nil meets_nil' meets_cons mem_nil mem_cons nbeq_dec blt_dec ble_dec fill repN firstNo lenOf fieldAddrV fieldV part natOf_zero natOf_one
open Go.Vabs.Ph Go.Vabs.Fl
theorem foot_callv {f : Src} {xs : List Src} {ev : Src → V} : foot (.callv f xs) ev = .call := rfl
theorem get_call0 {os : List (Option AObj)} {i : Nat} : (limited .call [] (few os)).get i = (few os).get i := rfl
theorem load_call0 {os : List (Option AObj)} {a : Bool} {n : Nat} {v : V} : loadV (limited .call [] (few os)) a n v = loadV (few os) a n v := rfl
theorem flatAt_call0 {os : List (Option AObj)} {e : Nat} {v : V} : flatAt (limited .call [] (few os)) e v = flatAt (few os) e v := rfl
noncomputable def mk1 (f : Nat) (st : St) (v : V) : Option (V × St) := sel (allB V.base [] && allB V.base [v]) (some (.func f [] [v], st)) none
theorem mk1_ptr {f : Nat} {st : St} {p : Option (Nat × Nat)} : mk1 f st (.ptr p) = some (.func f [] [.ptr p], st) := rfl
theorem step_mkfn {call : CallT} {s : Env} {st : St} {f : Nat} {x : Src} : stepE call (.mkfn f [] [x]) s st = mk1 f st (s.ev x) := by
  show (match ex_mkfn f [] [x] s.ev st with | some (.val v, st') => some (v, st') | some (.enter g args, st') => call g args st' | none => none) = _
  unfold ex_mkfn mk1
  simp only [List.map_cons, List.map_nil]
  generalize (allB V.base [] && allB V.base [s.ev x]) = b
  cases b <;> rfl
/- DIVISION -/
def FloorF (call : CallT) (g : Nat) : Prop := ∀ a b st, 0 ≤ a → a < 4611686018427387904 → 0 < b → b < 4611686018427387904 → call g [.int .i64 a, .int .i64 b] st = some (.int .i64 (a / b), st)
theorem FloorF.code {base : CallT} {g lf : Nat} : FloorF (withF base g lf floored_c) g := fun a b st h1 h2 h3 h4 => by
  rw [withF_same]
  refine enter_eq ?_
  have e1 : Int.tdiv a b = a / b := Int.tdiv_eq_ediv_of_nonneg h1
  have b1 := Int.ediv_nonneg h1 (show 0 ≤ b by omega)
  have b2 := Int.ediv_le_self b h1
  by_cases h0 : Int.tmod a b = 0
  · simp (disch := omega) [bin_quo, bin_rem, e1, h0, wrap_i]
  · simp (disch := omega) [bin_quo, bin_rem, e1, h0, wrap_i, dlt_f, dlt_t]
noncomputable section
def divI (a b : Int) : Int := clip (clip a * 65536 / clip b)
end
def DivF (call : CallT) (g : Nat) : Prop := ∀ a b st, 0 ≤ a → 0 < b → call g [.int .i64 a, .int .i64 b] st = some (.int .i64 (divI a b), st)
theorem DivF.code {base : CallT} {g nc nf lf : Nat} (hc : ClipF base nc) (hf : FloorF base nf) : DivF (withF base g lf (Div_c nc nf)) g := fun a b st h1 h2 => by
  rw [withF_same]
  refine enter_eq ?_
  have a1 : 0 ≤ clip a := by unfold clip; omega
  have b1 : 0 < clip b := by unfold clip; omega
  have a2 := clip_le a
  have b2 := clip_le b
  have f1 := fun st => hf (clip a * 65536) (clip b) st (by omega) (by omega) b1 (by omega)
  unfold divI
  have q1 := Int.ediv_nonneg (show 0 ≤ clip a * 65536 by omega) (show 0 ≤ clip b by omega)
  have c1 := fun st => hc a st
  have c2 := fun st => hc b st
  have c3 := fun st => hc (clip a * 65536 / clip b) st
  simp (disch := omega) [c1, c2, c3, f1, wrap_i, deq_f]
theorem DivF.other {call : CallT} {n g : Nat} {l : List V → St → Option (V × St)} (h : DivF call n) (hne : n ≠ g) : DivF (withL call g l) n := fun x y st hx hy => by rw [withL_other hne]; exact h x y st hx hy
theorem DivF.withF {call : CallT} {n g lf : Nat} {fn : AFunc} (h : DivF call n) (hne : n ≠ g) : DivF (Vabs.withF call g lf fn) n := fun x y st hx hy => by rw [withF_other hne]; exact h x y st hx hy
/- BETWEEN -/
def BetwF (call : CallT) (g : Nat) : Prop := ∀ n a b st, min a b ≤ n → n ≤ max a b → call g [.int .i64 n, .int .i64 a, .int .i64 b] st = some (.bool true, st)
theorem BetwF.code {base : CallT} {g lf : Nat} : BetwF (withF base g lf between_c) g := fun n a b st h1 h2 => by
  rw [withF_same]
  refine enter_eq ?_
  simp (disch := omega) [mm_minc, mm_maxc, mm_nil, dle_t]
theorem BetwF.other {call : CallT} {n g : Nat} {l : List V → St → Option (V × St)} (h : BetwF call n) (hne : n ≠ g) : BetwF (withL call g l) n := fun x a b st hx hy => by rw [withL_other hne]; exact h x a b st hx hy
theorem BetwF.withF {call : CallT} {n g lf : Nat} {fn : AFunc} (h : BetwF call n) (hne : n ≠ g) : BetwF (Vabs.withF call g lf fn) n := fun x a b st hx hy => by rw [withF_other hne]; exact h x a b st hx hy
/- MIX -/
def CloF (call : CallT) (g : Nat) : Prop := ∀ x y t (c0 c1 c3 : Option AObj), by8 x → by8 y → 0 ≤ t → t ≤ 65536 → ∀ st, st = few [c0, c1, some (.cells true [.int .i64 t]), c3] ∨ st = limited .call [] (few [c0, c1, some (.cells true [.int .i64 t]), c3]) → call g [.int .i64 x, .int .i64 y, .ptr (some (2, 0))] st = some (.int .i64 (mixI x y t), st)
theorem CloF.code {base : CallT} {g lf : Nat} : CloF (withF base g lf mix_c) g := fun x y t c0 c1 c3 hx hy h1 h2 st hst => by
  rw [withF_same]
  have hl : loadV st false 1 (.ptr (some (2, 0))) = some (.int .i64 t) := by
    rcases hst with rfl | rfl
    · rfl
    · rfl
  clear hst
  have a1 := mul_bd hx.1 hx.2 (show 0 ≤ 65536 - t by omega) (show 65536 - t ≤ 65536 by omega)
  have a2 := mul_bd hy.1 hy.2 h1 h2
  have a3 := mix_in hx hy h1 h2
  unfold by8 at a3
  unfold mixI at a3 ⊢
  refine enter_eq ?_
  simp (disch := omega) [hl, bin_quo, wrap_i]
theorem CloF.other {call : CallT} {n g : Nat} {l : List V → St → Option (V × St)} (h : CloF call n) (hne : n ≠ g) : CloF (withL call g l) n := fun x y t c0 c1 c3 a b c d st e => by rw [withL_other hne]; exact h x y t c0 c1 c3 a b c d st e
theorem mix_run {call : CallT} {nt nm : Nat} (ht : PxF Px.v call nt) (hm : CloF call nm) {p q : Px} {t : Int} (hp : p.ok) (hq : q.ok) : ∃ s1, enterF call 1 [p.v, q.v, .int .i64 t] (few []) (Mix_c nt nm) = some ((mixP p q (unit16 t)).v, s1) := by
  have t1 := fun st => ht p st hp
  have t2 := fun st => ht q st hq
  have hu := unit_in t
  have m1 := fun c0 c1 c3 => hm p.r q.r (unit16 t) c0 c1 c3 hp.1 hq.1 hu.1 hu.2 _ (.inr rfl)
  have m2 := fun c0 c1 c3 => hm p.g q.g (unit16 t) c0 c1 c3 hp.2.1 hq.2.1 hu.1 hu.2 _ (.inr rfl)
  have m3 := fun c0 c1 c3 => hm p.b q.b (unit16 t) c0 c1 c3 hp.2.2.1 hq.2.2.1 hu.1 hu.2 _ (.inr rfl)
  have m4 := fun c0 c1 c3 => hm p.a q.a (unit16 t) c0 c1 c3 hp.2.2.2 hq.2.2.2 hu.1 hu.2 _ (.inr rfl)
  have m4' := fun c0 c1 c3 => hm p.a q.a (unit16 t) c0 c1 c3 hp.2.2.2 hq.2.2.2 hu.1 hu.2 _ (.inl rfl)
  obtain ⟨r, g, b, a⟩ := p
  obtain ⟨r', g', b', a'⟩ := q
  unfold Px.v at t1 t2 ⊢
  unfold mixP
  have eu : max 0 (min t 65536) = unit16 t := rfl
  refine enter_ex ?_
  simp (disch := omega) [load_fewC, store_fewC, t1, t2, mm_minc, mm_maxc, mm_nil, eu, foot_callv, step_callv, step_mkfn, mk1_ptr, m1, m2, m3, m4, m4', load_call0]
theorem mixL_sound {P : Program} {call : CallT} (hmix : P.follows .mixedOrders = true) (h : Sound P call) {g : Nat} {fn : AFunc} (hc : compF P g = some fn) (hrun : ∀ p q t, p.ok → q.ok → ∃ s1, enterF call 1 [p.v, q.v, .int .i64 t] (few []) fn = some ((mixP p q (unit16 t)).v, s1)) :
    Sound P (withL call g (lawOf (flatRd mixLaw))) :=
  h.flat hmix 1 hc fun args os f' h1 => by
    unfold mixLaw at h1
    split at h1
    · split at h1
      · rename_i v w t _ _ p q hp hq
        cases h1
        obtain ⟨rfl, hok⟩ := pxOf_some hp
        obtain ⟨rfl, hok'⟩ := pxOf_some hq
        obtain ⟨s1, e⟩ := hrun p q t hok hok'
        exact ⟨_, s1, [], e, fun n => Left.flatA rfl⟩
      · cases h1
    · cases h1
def MixF (call : CallT) (g : Nat) : Prop := ∀ p q t st, p.ok → q.ok → call g [p.v, q.v, .int .i64 t] st = some ((mixP p q (unit16 t)).v, st)
theorem mixL_fact {call : CallT} {g : Nat} : MixF (withL call g (lawOf (flatRd mixLaw))) g := fun p q t st hp hq => by
  rw [flat_call (by rfl)]
  show lawOut (match pxOf p.v, pxOf q.v with | some p, some q => some ([], fun _ => (mixP p q (unit16 t)).v) | _, _ => none) st = _
  rw [pxOf_v hp, pxOf_v hq]
  rfl
theorem MixF.other {call : CallT} {n g : Nat} {l : List V → St → Option (V × St)} (h : MixF call n) (hne : n ≠ g) : MixF (withL call g l) n := fun p q t st hp hq => by rw [withL_other hne]; exact h p q t st hp hq
theorem MixF.withF {call : CallT} {n g lf : Nat} {fn : AFunc} (h : MixF call n) (hne : n ≠ g) : MixF (Vabs.withF call g lf fn) n := fun p q t st hp hq => by rw [withF_other hne]; exact h p q t st hp hq

end Go.Vabs.Ln
