/-
  Lines of colours: stops of raw numbers.
-/
import Derived.Test.YtefgofmjfaobpaaVabsFq
namespace Go.Vabs.Ln
set_option linter.unusedVariables false
set_option linter.unusedSimpArgs false
set_option maxRecDepth 10000
attribute [local simp] wp_skip wp_ret wp_exit wp_reg wp_seq wp_cond wp_block thenQ_normal thenQ_ret thenQ_exit blockQ_normal blockQ_ret blockQ_exit wpCond_true wpCond_false wpOps_nil wpVal_some wpGuard_true wpGuard_false wpOps_guard wpOps_cons
  put_at put_no ev_c ev_slot posEq_h posEq_o posEq_i posEq_ho posEq_hi posEq_oh posEq_ih posEq_oi posEq_io sel_true sel_false
  okv_some step_mv step_call step_pick pickV_bool step_bin bin_add bin_sub bin_mul bin_eql bin_neq bin_lss bin_leq bin_gtr bin_geq bin_eqb bin_neb bin_eqs bin_nes step_un un_not un_neg step_len len_slice len_str len_const step_extract extractV nth step_convInt conv_int step_convStr step_slice step_idxAddr natOf_nat step_load step_index step_field step_fieldAddr step_build step_minmax
  step_alloc step_bslice bsliceV_some newV_some step_store step_append boolIs_b boolIs_t finQ_ret finQ_normal ressE_nil ressE_cons resE_tmp consO_some initE_nil initE_cons pos_0 pos_1 pos_2 pos_3 pos_4 pos_5 pos_6 pos_7 pos_8 plain_bool plain_int plain_str plain_ptr plain_slice plain_map plain_agg plain_func plain_nilFunc V.undef oneOf_one oneOf_two ble_self bin_agg eqV_parts eqV_int eqV_bool eqV_str eqParts_nil eqParts_cons eqC_true eqC_false eqO_some eqR_eql eqR_neq
attribute [local simp] wp_dreg wpDs_nil wpDs_cons wantedE_none wantedE_some wpDGuard_true wpDGuard_lim wpDGuard_false wpDLim_true wpDVal_free wpDVal_lim back_limited next_limited foot_convStr foot_load foot_store foot_alloc foot_box foot_bslice foot_append foot_call okAll_nil okAll_cons pastsOf nthP
  wpRounds_succ roundQ_normal roundQ_ret roundQ_exit cells_int cells_bool cells_str cells_agg cells_slice few_alloc lawOut_nil lawOut_one step_box newV alloc_dir backv back_back back_few next_back few_next resE_cell first_fewC grow_none grow_some cellsAt_zero cellsAt_succ ownAt_zero ownAt_succ loadC_some storeC_some firstC_some growC_some load_d convStr_d convStr_d0 store_d append_d2 append_d1 first_d2 first_d1 cut takeN nth splice over idOf okPair_dd okPair_dc okPair_cd okPair_cc anyIn_nil anyIn_same meets_nil meets_nil' meets_cons mem_nil mem_cons nbeq_dec blt_dec ble_dec fill repN firstNo lenOf fieldAddrV fieldV part natOf_zero natOf_one
open Go.Vabs.Ph Go.Vabs.Fl
def inI (n : Int) : Prop := -9223372036854775808 ≤ n ∧ n < 9223372036854775808
/- A COLOUR OF A NUMBER -/
def alphaI (n : Int) : Int := if pickI n 3 = 0 then pickI (Int.tdiv n 3) 256 else 255
noncomputable def colorS : List V → Option Ans
  | [.int .i64 n] => if -9223372036854775808 ≤ n ∧ n < 9223372036854775808 then some ([], fun _ => .agg [.int .i64 (pickI n 256), .int .i64 (pickI (Int.tdiv n 256) 256), .int .i64 (pickI (Int.tdiv n 7) 256), .int .i64 (alphaI n)]) else none
  | _ => none
def ColorF (call : CallT) (g : Nat) : Prop := ∀ n st, inI n → call g [.int .i64 n] st = some (.agg [.int .i64 (pickI n 256), .int .i64 (pickI (Int.tdiv n 256) 256), .int .i64 (pickI (Int.tdiv n 7) 256), .int .i64 (alphaI n)], st)
theorem tdiv_in {n k : Int} (h : inI n) (hk : 3 ≤ k) : -9223372036854775808 ≤ Int.tdiv n k ∧ Int.tdiv n k < 9223372036854775808 := by
  unfold inI at h
  rw [tdiv_lit]
  split
  · have h1 := Int.ediv_nonneg (a := n) (b := k) (by omega) (by omega)
    have h2 := Int.ediv_le_self k (show 0 ≤ n by omega)
    omega
  · have h1 := Int.ediv_nonneg (a := -n) (b := k) (by omega) (by omega)
    have h2 := Int.ediv_le_self k (show 0 ≤ -n by omega)
    omega
theorem color_sound {P : Program} {call : CallT} (hmix : P.follows .mixedOrders = true) (h : Sound P call) {g np : Nat} (hp : PickF call np) (hc : compF P g = some (Color_c np)) : Sound P (withL call g (lawOf (flatRd colorS))) :=
  h.flat hmix 1 hc fun args os f h1 => by
    unfold colorS at h1
    split at h1
    · rename_i n
      split at h1
      · rename_i hn
        cases h1
        have p3 := fun st => hp n 3 st (by omega) (by omega)
        have p256 := fun st => hp n 256 st (by omega) (by omega)
        have q3 := fun st => hp (Int.tdiv n 3) 256 st (by omega) (by omega)
        have q256 := fun st => hp (Int.tdiv n 256) 256 st (by omega) (by omega)
        have q7 := fun st => hp (Int.tdiv n 7) 256 st (by omega) (by omega)
        have t3 := tdiv_in (k := 3) hn (by omega)
        have t7 := tdiv_in (k := 7) hn (by omega)
        have t256 := tdiv_in (k := 256) hn (by omega)
        have e : ∃ s1, enterF call 1 [.int .i64 n] (few []) (Color_c np) = some (.agg [.int .i64 (pickI n 256), .int .i64 (pickI (Int.tdiv n 256) 256), .int .i64 (pickI (Int.tdiv n 7) 256), .int .i64 (alphaI n)], s1) := by
          refine enter_ex ?_
          unfold alphaI
          by_cases h0 : pickI n 3 = 0
          · simp (disch := omega) [load_fewC, store_fewC, p3, p256, q3, q256, q7, h0, bin_quo, wrap_i]
          · simp (disch := omega) [load_fewC, store_fewC, p3, p256, q3, q256, q7, h0, bin_quo, wrap_i]
        obtain ⟨s1, e⟩ := e
        exact ⟨_, s1, [], e, fun m => Left.flatA rfl⟩
      · cases h1
    · cases h1
theorem color_fact {call : CallT} {g : Nat} : ColorF (withL call g (lawOf (flatRd colorS))) g := fun n st hn => by
  rw [flat_call rfl]
  have e : colorS [.int .i64 n] = some ([], fun _ => .agg [.int .i64 (pickI n 256), .int .i64 (pickI (Int.tdiv n 256) 256), .int .i64 (pickI (Int.tdiv n 7) 256), .int .i64 (alphaI n)]) := if_pos (show -9223372036854775808 ≤ n ∧ n < 9223372036854775808 from hn)
  rw [e]
  rfl
theorem ColorF.other {call : CallT} {n g : Nat} {l : List V → St → Option (V × St)} (h : ColorF call n) (hne : n ≠ g) : ColorF (withL call g l) n := fun a st hn => by rw [withL_other hne]; exact h a st hn

/- STOPS OF RAW NUMBERS -/
def pairs : Nat → List Int → List (Int × Int)
  | k + 1, a :: b :: r => (a, b) :: pairs k r
  | _, _ => []
theorem pairs_len : ∀ (k : Nat) (l : List Int), (pairs k l).length = min k (l.length / 2)
  | 0, l => by simp [pairs]
  | k + 1, [] => by simp [pairs]
  | k + 1, [a] => by simp [pairs]
  | k + 1, a :: b :: r => by
    show (pairs k r).length + 1 = _
    rw [pairs_len k r]
    simp only [List.length_cons]
    omega
theorem pairs_at : ∀ (k : Nat) (l : List Int) (r : Nat) (p : Int × Int), (pairs k l)[r]? = some p → l[2 * r]? = some p.1 ∧ l[2 * r + 1]? = some p.2
  | 0, l, r, p, h => by simp [pairs] at h
  | k + 1, [], r, p, h => by simp [pairs] at h
  | k + 1, [a], r, p, h => by simp [pairs] at h
  | k + 1, a :: b :: l, 0, p, h => by
    have h : some (a, b) = some p := h
    cases h
    exact ⟨rfl, rfl⟩
  | k + 1, a :: b :: l, r + 1, p, h => by
    have h : (pairs k l)[r]? = some p := h
    obtain ⟨h1, h2⟩ := pairs_at k l r p h
    rw [show 2 * (r + 1) = 2 * r + 1 + 1 from by omega, show 2 * r + 1 + 1 + 1 = (2 * r + 1) + 1 + 1 from rfl]
    exact ⟨h1, h2⟩
noncomputable section
def stopI (near : Bool) (p : Int × Int) : Stop := ⟨if near = true then pickI p.1 9 * 8192 else numI p.1, .int .i64 (pickI p.2 256), .int .i64 (pickI (Int.tdiv p.2 256) 256), .int .i64 (pickI (Int.tdiv p.2 7) 256), .int .i64 (alphaI p.2)⟩
def stopsL (near : Bool) (ns : List Int) : List Stop := (pairs 12 ns).map (stopI near)
def intsOf : List V → Option (List Int)
  | [] => some []
  | .int .i64 n :: l => if -9223372036854775808 ≤ n ∧ n < 9223372036854775808 then (match intsOf l with | some r => some (n :: r) | none => none) else none
  | _ => none
/-- A slice of stops made anew. -/
def madeA (l : List Stop) : Ans := if l = [] then ([], fun _ => .slice none 0 0 0 true) else ([.cells true (enc l)], fun k => .slice (some (k, 0)) 5 l.length l.length false)
def stopsS : List V → Bool → Nat → List V → Option Ans
  | [.bool near], _, n, cs => match intsOf cs with
    | some ns => if n ≤ 140737488351232 then some (madeA (stopsL near ns)) else none
    | none => none
  | _, _, _, _ => none
end
theorem intsOf_some : ∀ (cs : List V) (ns : List Int), intsOf cs = some ns → cs = intsV .i64 ns ∧ ∀ n ∈ ns, inI n := by
  intro cs
  induction cs with
  | nil => intro ns h; cases h; exact ⟨rfl, fun n hn => by cases hn⟩
  | cons v l ih =>
    intro ns h
    unfold intsOf at h
    split at h
    · rename_i heq; cases heq
    · rename_i n l' heq
      cases heq
      split at h
      · rename_i hn
        split at h
        · rename_i r hr
          cases h
          obtain ⟨h1, h2⟩ := ih r hr
          refine ⟨by rw [h1]; rfl, fun m hm => ?_⟩
          rcases List.mem_cons.1 hm with rfl | hm
          · exact hn
          · exact h2 m hm
        · cases h
      · cases h
    · cases h
theorem intsOf_ints : ∀ {ns : List Int}, (∀ n ∈ ns, inI n) → intsOf (intsV .i64 ns) = some ns
  | [], _ => rfl
  | n :: ns, h => by
    show (if -9223372036854775808 ≤ n ∧ n < 9223372036854775808 then (match intsOf (intsV .i64 ns) with | some r => some (n :: r) | none => none) else none) = _
    rw [if_pos (show -9223372036854775808 ≤ n ∧ n < 9223372036854775808 from h n (List.mem_cons_self ..)), intsOf_ints (fun m hm => h m (List.mem_cons_of_mem _ hm))]
theorem stopI_ok (near : Bool) (p : Int × Int) : (stopI near p).ok := ⟨rfl, rfl, rfl, rfl⟩
theorem enc_snoc : ∀ (l : List Stop) (s : Stop), enc l ++ encS s = enc (l ++ [s])
  | [], s => rfl
  | t :: l, s => by
    show _ :: _ :: _ :: _ :: _ :: (enc l ++ encS s) = _
    rw [enc_snoc l s]
    rfl
theorem set_two {pre : List (Option AObj)} {a b c : Option AObj} : (pre ++ [a, b]).set pre.length c = pre ++ [c, b] := by
  rw [List.set_append_right _ _ (Nat.le_refl _), Nat.sub_self]
  rfl
set_option maxHeartbeats 4000000 in
theorem stops_sound {P : Program} {call : CallT} (hmix : P.follows .mixedOrders = true) (h : Sound P call) {g nn np nc : Nat} (hnum : NumHF call nn) (hp : PickF call np) (hcol : ColorF call nc) (hc : compF P g = some (stops_c nn np nc)) :
    Sound P (withL call g (lawOf (oneRd shapeH 1 stopsS))) :=
  h.one hmix 14 hc shapeH 1 fun rest nil n cs os f hnil hlen hflat h1 => by
    unfold stopsS at h1
    split at h1
    · rename_i near
      split at h1
      · rename_i ns hns
        split at h1
        · rename_i hn
          simp only [Option.some.injEq] at h1
          obtain ⟨rfl, hin⟩ := intsOf_some _ _ hns
          have hln : ns.length = n := by rw [intsV_len] at hlen; omega
          have hlenS : ∀ st, lenV st .slice (slE 1 nil n) = some (.int .i64 (n : Int)) := fun st => rfl
          have hidx : ∀ q, q < n → idxAddrV (.slice 1) (slE 1 nil n) (some q) = some (.ptr (some (0, q))) := fun q hq => by
            cases nil with
            | true => have := (hnil rfl).1; omega
            | false =>
              refine (idxAddr_slice (i := 0) (o := 0) (k := q) (n := n) hq).trans ?_
              rw [Nat.zero_add, Nat.mul_one]
          have hld : ∀ (os : List (Option AObj)) q m, os[0]? = some (objOf nil (intsV .i64 ns)) → ns[q]? = some m → loadV (few os) false 1 (.ptr (some (0, q))) = some (.int .i64 m) := fun os q m ho hq => by
            cases nil with
            | true =>
              have := (hnil rfl).2
              have hz : ns = [] := by cases ns with | nil => rfl | cons a l => cases this
              rw [hz] at hq; simp at hq
            | false =>
              refine (load_few (own := false) (cs := intsV .i64 ns) (by rw [ho]; rfl)).trans ?_
              rw [intsV_at, hq]
              rfl
          obtain ⟨ps, hps⟩ : ∃ ps, ps = pairs 12 ns := ⟨_, rfl⟩
          have hpl : ps.length = min 12 (n / 2) := by rw [hps, pairs_len, hln]
          have hsl : stopsL near ns = ps.map (stopI near) := by rw [hps]; rfl
          rw [hsl] at h1
          have key : ∃ (out : V) (os1 : List (Option AObj)), enterF call 14 (shapeH.put [.bool near] (slE 1 nil n)) (memE nil (intsV .i64 ns)) (stops_c nn np nc) = some (out, few os1) ∧
              ((ps = [] ∧ out = .slice none 0 0 0 true) ∨ ∃ pre, os1 = pre ++ [some (.cells true (enc (ps.map (stopI near))))] ∧ 1 ≤ pre.length ∧ 1 ≤ ps.length ∧ out = .slice (some (pre.length, 0)) 5 ps.length ps.length false) := by
            have hput : shapeH.put [.bool near] (slE 1 nil n) = [slE 1 nil n, .bool near] := rfl
            rw [hput, show memE nil (intsV .i64 ns) = few [objOf nil (intsV .i64 ns)] from rfl]
            generalize slE 1 nil n = sv at hlenS hidx ⊢
            suffices hh : ∃ (out : V) (st1 : St), enterF call 14 [sv, .bool near] (few [objOf nil (intsV .i64 ns)]) (stops_c nn np nc) = some (out, st1) ∧ ∃ os1, st1 = few os1 ∧
              ((ps = [] ∧ out = .slice none 0 0 0 true) ∨ ∃ pre, os1 = pre ++ [some (.cells true (enc (ps.map (stopI near))))] ∧ 1 ≤ pre.length ∧ 1 ≤ ps.length ∧ out = .slice (some (pre.length, 0)) 5 ps.length ps.length false) by
              obtain ⟨out, st1, e1, os1, e2, e3⟩ := hh
              exact ⟨out, os1, by rw [← e2]; exact e1, e3⟩
            refine enter_wp ?_
            simp (disch := omega) [wrap_i]
            refine wp_loop (fun k s st => ∃ (r : Nat) (os : List (Option AObj)) (out : V), r + k = ps.length ∧ st = few os ∧ os[0]? = some (objOf nil (intsV .i64 ns)) ∧ ((r = 0 ∧ out = .slice none 0 0 0 true) ∨ (1 ≤ r ∧ ∃ pre, os = pre ++ [some (.cells true (enc ((ps.take r).map (stopI near))))] ∧ 1 ≤ pre.length ∧ out = .slice (some (pre.length, 0)) 5 r r false)) ∧
              s .h = sv ∧ s (.o .h) = .bool near ∧ s (.o (.i .h)) = out ∧ s (.i (.i .h)) = .int .i64 ((2 * r : Nat) : Int)) ps.length ?_ (by omega) ?_
            · refine ⟨0, _, _, by omega, rfl, rfl, .inl ⟨rfl, rfl⟩, ?_, ?_, ?_, ?_⟩ <;> simp
            · rintro k s st ⟨r, os, out, hr, rfl, ho, hout, s1, s2, s3, s4⟩
              cases k with
              | zero =>
                have hrl : r = ps.length := by omega
                have htk : ps.take r = ps := by rw [hrl, List.take_length]
                have fin : ∃ os1, few os = few os1 ∧ ((ps = [] ∧ out = .slice none 0 0 0 true) ∨ ∃ pre, os1 = pre ++ [some (.cells true (enc (ps.map (stopI near))))] ∧ 1 ≤ pre.length ∧ 1 ≤ ps.length ∧ out = .slice (some (pre.length, 0)) 5 ps.length ps.length false) := by
                  refine ⟨os, rfl, ?_⟩
                  rcases hout with ⟨h0, h2⟩ | ⟨h0, pre, h2, h3, h4⟩
                  · exact .inl ⟨List.length_eq_zero_iff.1 (by omega), h2⟩
                  · rw [htk] at h2
                    rw [hrl] at h4
                    exact .inr ⟨pre, h2, h3, by omega, h4⟩
                have hplain : out.plain = true := by
                  rcases hout with ⟨h0, h2⟩ | ⟨h0, pre, h2, h3, h4⟩
                  · rw [h2]; rfl
                  · rw [h4]; rfl
                obtain ⟨q, hq⟩ : ∃ q, q = 2 * r := ⟨_, rfl⟩
                rw [← hq] at s4
                have w1 : wrapV .i64 ((q : Int) + 1) = ((q + 1 : Nat) : Int) := by rw [wrap_i (by omega) (by omega)]; omega
                by_cases hc : q + 1 < n
                · have hc24 : ¬ q < 24 := by omega
                  simp (disch := omega) [s1, s2, s3, s4, hlenS, w1, dlt_t, dlt_f, dltn_t, dltn_f, hplain]
                  exact fin
                · simp (disch := omega) [s1, s2, s3, s4, hlenS, w1, dlt_t, dlt_f, dltn_t, dltn_f, hplain]
                  exact fin
              | succ k =>
                have hrl : r < ps.length := by omega
                obtain ⟨p, hp2⟩ : ∃ p, ps[r]? = some p := ⟨_, List.getElem?_eq_getElem hrl⟩
                have hpr := pairs_at 12 ns r p (by rw [← hps]; exact hp2)
                obtain ⟨q, hq⟩ : ∃ q, q = 2 * r := ⟨_, rfl⟩
                obtain ⟨q1, hq1⟩ : ∃ q1, q1 = q + 1 := ⟨_, rfl⟩
                obtain ⟨q2, hq2⟩ : ∃ q2, q2 = q + 2 := ⟨_, rfl⟩
                rw [← hq] at s4 hpr
                rw [← hq1] at hpr
                have in1 := hin p.1 (List.mem_of_getElem? hpr.1)
                have in2 := hin p.2 (List.mem_of_getElem? hpr.2)
                unfold inI at in1
                have hq1n : q1 < n := by rw [← hln]; exact (List.getElem?_eq_some_iff.1 hpr.2).1
                have w1 : wrapV .i64 ((q : Int) + 1) = (q1 : Int) := by rw [wrap_i (by omega) (by omega)]; omega
                have w2 : wrapV .i64 ((q : Int) + 2) = (q2 : Int) := by rw [wrap_i (by omega) (by omega)]; omega
                have i1 := hidx q (by omega)
                have i2 := hidx q1 hq1n
                have l1 := hld os q p.1 ho hpr.1
                have l2 := hld os q1 p.2 ho hpr.2
                have nm := fun st => hnum p.1 st in1
                have pk := fun st => hp p.1 9 st (by omega) (by omega)
                have pk2 := pickI_lt (n := p.1) (m := 9) (by omega)
                have cl := fun st => hcol p.2 st in2
                have htake : (ps.take (r + 1)).map (stopI near) = (ps.take r).map (stopI near) ++ [stopI near p] := by
                  rw [List.take_add_one, hp2, List.map_append]
                  rfl
                have hr12 : r < 12 := by omega
                have happ : ∀ c5, c5 = encS (stopI near p) → ∃ pre', appendV (few (os ++ [some (.cells true c5)])) 5 40 out (some 1) (some c5) = some (.slice (some (pre'.length, 0)) 5 (r + 1) (r + 1) false, few (pre' ++ [some (.cells true (enc ((ps.take (r + 1)).map (stopI near))))])) ∧ 1 ≤ pre'.length ∧ ∀ l, (pre' ++ l)[0]? = some (objOf nil (intsV .i64 ns)) := by
                  rintro c5 rfl
                  have hos : 1 ≤ os.length := by
                    have := (List.getElem?_eq_some_iff.1 ho).1
                    omega
                  rcases hout with ⟨h0, h2⟩ | ⟨h0, pre, h2, h3, h4⟩
                  · refine ⟨os ++ [some (.cells true (encS (stopI near p)))], ?_, by simp, fun l => ?_⟩
                    · rw [h2, htake, h0]
                      refine grow_none.trans ?_
                      rw [if_pos ⟨by omega, rfl⟩]
                      simp [encS, enc]
                    · rw [List.append_assoc, List.getElem?_append_left (by omega)]
                      exact ho
                  · refine ⟨pre ++ [none, some (.cells true (encS (stopI near p)))], ?_, by simp, fun l => ?_⟩
                    · rw [h4]
                      have hown : ownAt (os ++ [some (.cells true (encS (stopI near p)))]) pre.length = some (enc ((ps.take r).map (stopI near))) := by
                        rw [ownAt_eq, h2]
                        simp
                      have hel : (enc ((ps.take r).map (stopI near))).length = r * 5 := by
                        rw [enc_len, List.length_map, List.length_take]
                        omega
                      refine (grow_some (m := 0)).trans ?_
                      rw [hown, growC_some, if_pos ⟨by omega, rfl, by rw [hel]⟩, htake, ← enc_snoc, h2, List.append_assoc, show [some (AObj.cells true (enc (List.map (stopI near) (List.take r ps))))] ++ [some (AObj.cells true (encS (stopI near p)))] = [some (AObj.cells true (enc (List.map (stopI near) (List.take r ps)))), some (AObj.cells true (encS (stopI near p)))] from rfl, set_two]
                      simp
                    · rw [List.append_assoc, List.getElem?_append_left (by omega)]
                      rw [h2, List.getElem?_append_left (by omega)] at ho
                      exact ho
                have hfst : ∀ c5 : List V, c5.length = 5 → firstN (few (os ++ [some (.cells true c5)])) 5 1 (.slice (some (os.length, 0)) 5 1 1 true) = some c5 := fun c5 h5 => by
                  rw [first_fewC, cellsAt_eq, join_new]
                  show (if 1 ≤ 1 then cut 0 (1 * 5) c5 else none) = some c5
                  rw [if_pos (Nat.le_refl _), cut_of (by omega), List.drop_zero, List.take_of_length_le (by omega)]
                cases near with
                | false =>
                  have ap := happ [.int .i64 (numI p.1), .int .i64 (pickI p.2 256), .int .i64 (pickI (Int.tdiv p.2 256) 256), .int .i64 (pickI (Int.tdiv p.2 7) 256), .int .i64 (alphaI p.2)] rfl
                  have fs := hfst [.int .i64 (numI p.1), .int .i64 (pickI p.2 256), .int .i64 (pickI (Int.tdiv p.2 256) 256), .int .i64 (pickI (Int.tdiv p.2 7) 256), .int .i64 (alphaI p.2)] rfl
                  obtain ⟨pre', ap, ap2, ap3⟩ := ap
                  simp (disch := omega) [s1, s2, s3, s4, hlenS, w1, w2, dlt_t, dlt_f, dltn_t, dltn_f, natOf_nat, i1, i2, l1, l2, nm, cl, fs, ap]
                  refine ⟨k, by omega, r + 1, by omega, _, rfl, ap3 _, _, .inr ⟨by omega, pre', rfl, ap2, rfl⟩, ?_⟩
                  exact ⟨rfl, by omega⟩
                | true =>
                  have ap := happ [.int .i64 (pickI p.1 9 * 8192), .int .i64 (pickI p.2 256), .int .i64 (pickI (Int.tdiv p.2 256) 256), .int .i64 (pickI (Int.tdiv p.2 7) 256), .int .i64 (alphaI p.2)] rfl
                  have fs := hfst [.int .i64 (pickI p.1 9 * 8192), .int .i64 (pickI p.2 256), .int .i64 (pickI (Int.tdiv p.2 256) 256), .int .i64 (pickI (Int.tdiv p.2 7) 256), .int .i64 (alphaI p.2)] rfl
                  obtain ⟨pre', ap, ap2, ap3⟩ := ap
                  simp (disch := omega) [s1, s2, s3, s4, hlenS, w1, w2, dlt_t, dlt_f, dltn_t, dltn_f, natOf_nat, i1, i2, l1, l2, nm, pk, cl, fs, ap, wrap_i]
                  refine ⟨k, by omega, r + 1, by omega, _, rfl, ap3 _, _, .inr ⟨by omega, pre', rfl, ap2, rfl⟩, ?_⟩
                  exact ⟨rfl, by omega⟩
          obtain ⟨out, os1, e, hcase⟩ := key
          have hls : (ps.map (stopI near)).length = ps.length := List.length_map ..
          rcases hcase with ⟨h0, h2⟩ | ⟨pre, h2, h3, h5, h4⟩
          · subst h2
            rw [h0] at h1
            cases h1
            exact ⟨_, few os1, [], e, fun τ m => Left.flat rfl⟩
          · have hfl : ∀ v ∈ enc (ps.map (stopI near)), v.flat = true := enc_flat fun s hs => by
              simp only [List.mem_map] at hs
              obtain ⟨p, _, rfl⟩ := hs
              exact stopI_ok near p
            subst h2
            rw [h4] at e
            have hne : ps.map (stopI near) ≠ [] := fun h0 => by rw [h0] at hls; have : 0 = ps.length := hls; omega
            unfold madeA at h1
            rw [if_neg hne] at h1
            cases h1
            have hget : (few (pre ++ [some (.cells true (enc (ps.map (stopI near))))])).heap.get pre.length = some (.cells true (enc (ps.map (stopI near)))) := by
              rw [few_heap, List.getElem?_append_right (Nat.le_refl _), Nat.sub_self]
              rfl
            refine ⟨_, few (pre ++ [some (.cells true (enc (ps.map (stopI near))))]), [pre.length], e, fun τ m => ?_⟩
            rw [hls]
            exact Left.cells hfl (Nat.le_refl _) h3 hget
        · cases h1
      · cases h1
    · cases h1

end Go.Vabs.Ln
