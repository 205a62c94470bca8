/- Lemmas for this claim, text Lb. No condition. -/
import Derived.Test.YtcgiiomghmffbaaVabsZj
import Derived.Test.YtcgiiomghmffbaaVabsZd
namespace Go.Vabs.L2
set_option linter.unusedVariables false
set_option linter.unusedSimpArgs false
set_option maxRecDepth 10000
def Num_c : AFunc := AFunc.mk 42 (.seq (.reg [AOper.mk (some (.i (.i .h))) (.mv (.c (.int .i64 (.ofNat 0)))) none, AOper.mk (some (.o (.o (.o .h)))) (.mv (.c (.bool false))) none]) (.seq (.seq (.reg [AOper.mk (some (.o (.o (.i .h)))) (.bin .lss (.val .int) (.t (.o .h)) (.c (.int .i64 (.ofNat 0)))) none, AOper.mk (some (.i (.o (.i .h)))) (.mv (.t (.o (.o (.i .h))))) none, AOper.mk (some (.o (.o (.o (.o .h))))) (.len .slice (.t .h)) (some (.i (.o (.i .h)), false)), AOper.mk (some (.i (.o (.o (.o .h))))) (.bin .gtr (.val .int) (.t (.o .h)) (.t (.o (.o (.o (.o .h)))))) (some (.i (.o (.i .h)), false)), AOper.mk (some (.o (.i (.o (.o .h))))) (.pick (.t (.i (.o (.i .h)))) (.c (.bool true)) (.t (.i (.o (.o (.o .h)))))) none, AOper.mk (some (.i (.i (.o (.o .h))))) (.mv (.t (.o (.i (.o (.o .h)))))) none, AOper.mk (some (.i (.o (.i (.o .h))))) (.len .slice (.t .h)) (some (.i (.i (.o (.o .h))), false)), AOper.mk (some (.i (.i (.i (.o .h))))) (.bin .sub (.val .int) (.t (.i (.o (.i (.o .h))))) (.t (.o .h))) (some (.i (.i (.o (.o .h))), false)), AOper.mk (some (.i (.o (.o (.i .h))))) (.bin .lss (.val .int) (.t (.i (.i (.i (.o .h))))) (.t (.i .h))) (some (.i (.i (.o (.o .h))), false)), AOper.mk (some (.o (.i (.o (.i .h))))) (.pick (.t (.i (.i (.o (.o .h))))) (.c (.bool true)) (.t (.i (.o (.o (.i .h)))))) none]) (.cond (.t (.o (.i (.o (.i .h))))) (.seq (.reg [AOper.mk (some (.i (.i .h))) (.mv (.c (.int .i64 (.ofNat 0)))) none, AOper.mk (some (.o (.o (.o .h)))) (.mv (.c (.bool false))) none]) .ret) .skip)) (.seq (.reg [AOper.mk (some (.i (.o (.o .h)))) (.mv (.c (.int .i64 (.ofNat 0)))) none]) (.seq (.seq (.reg [AOper.mk (some (.o (.i (.o .h)))) (.mv (.c (.int .i64 (.ofNat 0)))) none]) (.block 0 (.loop (.seq (.seq (.reg [AOper.mk (some (.i (.o (.i (.i .h))))) (.bin .lss (.val .int) (.t (.o (.i (.o .h)))) (.t (.i .h))) none]) (.cond (.t (.i (.o (.i (.i .h))))) .skip (.exit 0))) (.seq (.block 1 (.reg [AOper.mk (some (.i (.o (.o (.o (.o .h)))))) (.bin .mul (.val .int) (.t (.i (.o (.o .h)))) (.c (.int .i64 (.ofNat 256)))) none, AOper.mk (some (.i (.o (.i (.o (.o .h)))))) (.bin .add (.val .int) (.t (.o .h)) (.t (.o (.i (.o .h))))) none, AOper.mk (some (.o (.i (.i (.o (.o .h)))))) (.idxAddr (.slice 1) (.t .h) (.t (.i (.o (.i (.o (.o .h))))))) none, AOper.mk (some (.i (.i (.i (.o (.o .h)))))) (.load false 1 (.t (.o (.i (.i (.o (.o .h))))))) none, AOper.mk (some (.o (.o (.o (.i (.o .h)))))) (.conv (.int .i64) (.t (.i (.i (.i (.o (.o .h))))))) none, AOper.mk (some (.i (.o (.o (.i (.o .h)))))) (.bin .add (.val .int) (.t (.i (.o (.o (.o (.o .h)))))) (.t (.o (.o (.o (.i (.o .h))))))) none, AOper.mk (some (.i (.o (.o .h)))) (.mv (.t (.i (.o (.o (.i (.o .h))))))) none])) (.reg [AOper.mk (some (.i (.i (.i (.i .h))))) (.bin .add (.val .int) (.t (.o (.i (.o .h)))) (.c (.int .i64 (.ofNat 1)))) none, AOper.mk (some (.o (.i (.o .h)))) (.mv (.t (.i (.i (.i (.i .h)))))) none])))))) (.seq (.reg [AOper.mk (some (.i (.i .h))) (.mv (.t (.i (.o (.o .h))))) none, AOper.mk (some (.o (.o (.o .h)))) (.mv (.c (.bool true))) none]) .ret))))) [.tmp (.i (.i .h)), .tmp (.o (.o (.o .h)))]
def RPart_c : AFunc := AFunc.mk 36 (.seq (.reg [AOper.mk (some (.i (.i .h))) (.mv (.c (.slice none 0 0 0 true))) none, AOper.mk (some (.o (.o (.o .h)))) (.mv (.c (.bool false))) none]) (.seq (.seq (.reg [AOper.mk (some (.o (.i (.o .h)))) (.bin .lss (.val .int) (.t (.i .h)) (.c (.int .i64 (.ofNat 0)))) none, AOper.mk (some (.i (.i (.o .h)))) (.mv (.t (.o (.i (.o .h))))) none, AOper.mk (some (.i (.o (.i .h)))) (.bin .lss (.val .int) (.t (.o .h)) (.c (.int .i64 (.ofNat 0)))) (some (.i (.i (.o .h)), false)), AOper.mk (some (.o (.i (.i .h)))) (.pick (.t (.i (.i (.o .h)))) (.c (.bool true)) (.t (.i (.o (.i .h))))) none, AOper.mk (some (.i (.i (.i .h)))) (.mv (.t (.o (.i (.i .h))))) none, AOper.mk (some (.o (.i (.o (.o .h))))) (.len .slice (.t .h)) (some (.i (.i (.i .h)), false)), AOper.mk (some (.i (.i (.o (.o .h))))) (.bin .gtr (.val .int) (.t (.o .h)) (.t (.o (.i (.o (.o .h)))))) (some (.i (.i (.i .h)), false)), AOper.mk (some (.o (.o (.i (.o .h))))) (.pick (.t (.i (.i (.i .h)))) (.c (.bool true)) (.t (.i (.i (.o (.o .h)))))) none, AOper.mk (some (.i (.o (.i (.o .h))))) (.mv (.t (.o (.o (.i (.o .h)))))) none, AOper.mk (some (.i (.i (.i (.o .h))))) (.len .slice (.t .h)) (some (.i (.o (.i (.o .h))), false)), AOper.mk (some (.i (.o (.o (.i .h))))) (.bin .sub (.val .int) (.t (.i (.i (.i (.o .h))))) (.t (.o .h))) (some (.i (.o (.i (.o .h))), false)), AOper.mk (some (.i (.i (.o (.i .h))))) (.bin .lss (.val .int) (.t (.i (.o (.o (.i .h))))) (.t (.i .h))) (some (.i (.o (.i (.o .h))), false)), AOper.mk (some (.o (.o (.i (.i .h))))) (.pick (.t (.i (.o (.i (.o .h))))) (.c (.bool true)) (.t (.i (.i (.o (.i .h)))))) none]) (.cond (.t (.o (.o (.i (.i .h))))) (.seq (.reg [AOper.mk (some (.i (.i .h))) (.mv (.c (.slice none 0 0 0 true))) none, AOper.mk (some (.o (.o (.o .h)))) (.mv (.c (.bool false))) none]) .ret) .skip)) (.seq (.reg [AOper.mk (some (.i (.o (.i (.i .h))))) (.bslice 1 0 [.int .u8 (.ofNat 0)] []) none, AOper.mk (some (.o (.i (.o (.o (.o .h)))))) (.bin .add (.val .int) (.t (.o .h)) (.t (.i .h))) none, AOper.mk (some (.i (.i (.o (.o (.o .h)))))) (.slice (.slice 1) (.t .h) (some (.t (.o .h))) (some (.t (.o (.i (.o (.o (.o .h))))))) none) none, AOper.mk (some (.o (.o (.i (.o (.o .h)))))) (.append 1 1 (.t (.i (.o (.i (.i .h))))) (.t (.i (.i (.o (.o (.o .h))))))) none, AOper.mk (some (.i (.i .h))) (.mv (.t (.o (.o (.i (.o (.o .h))))))) none, AOper.mk (some (.o (.o (.o .h)))) (.mv (.c (.bool true))) none]) .ret))) [.tmp (.i (.i .h)), .tmp (.o (.o (.o .h)))]
attribute [local simp] wp_skip wp_ret wp_exit wp_reg wp_seq wp_cond wp_block thenQ_normal thenQ_ret thenQ_exit blockQ_normal blockQ_ret blockQ_exit wpCond_true wpCond_false wpOps_nil wpVal_some wpGuard_true wpGuard_false wpOps_guard wpOps_cons
  put_at put_no ev_c ev_slot posEq_h posEq_o posEq_i posEq_ho posEq_hi posEq_oh posEq_ih posEq_oi posEq_io sel_true sel_false
  okv_some step_mv step_call step_pick pickV_bool step_bin bin_add bin_sub bin_mul bin_eql bin_neq bin_lss bin_leq bin_gtr bin_geq bin_eqb bin_neb bin_eqs bin_nes step_un un_not un_neg step_len len_slice len_str len_const step_extract extractV nth step_convInt conv_int step_convStr step_slice step_idxAddr natOf_nat step_load step_index step_field step_fieldAddr step_build step_minmax
  step_alloc step_bslice bsliceV_some newV_some step_store step_append boolIs_b boolIs_t finQ_ret finQ_normal ressE_nil ressE_cons resE_tmp consO_some initE_nil initE_cons pos_0 pos_1 pos_2 pos_3 pos_4 pos_5 pos_6 pos_7 pos_8 plain_bool plain_int plain_str plain_ptr plain_slice plain_map plain_agg plain_func plain_nilFunc V.undef oneOf_one oneOf_two ble_self
open Go.Vabs.Pk Go.Vabs.Ph
theorem Num_run {call : CallT} {lf : Nat} (hlf : 5 ≤ lf)
    {nil : Bool} {bs : List Nat} (hnil : nil = true → bs = []) (hb : ∀ b ∈ bs, b < 256) (hlen : bs.length < 9223372036854775808) {x : Int} {z : Nat} (hz : z ≤ 4) :
    enterF call lf [slOf nil bs, .int .i64 x, .int .i64 (z : Int)] (memOf nil bs) Num_c = some (numV (num bs x z), memOf nil bs) := by
  refine enter_eq ?_
  unfold slOf num
  by_cases c1 : x < 0
  · have h : ¬ thereB bs.length x z = true := fun e => by have := thereB_true.1 e; omega
    rw [if_neg h]
    simp (disch := omega) [c1, numV]
  by_cases c2 : (bs.length : Int) < x
  · have h : ¬ thereB bs.length x z = true := fun e => by have := thereB_true.1 e; omega
    rw [if_neg h]
    simp (disch := omega) [c1, c2, numV]
  by_cases c3 : (bs.length : Int) - x < z
  · have h : ¬ thereB bs.length x z = true := fun e => by have := thereB_true.1 e; omega
    rw [if_neg h]
    simp (disch := omega) [c1, c2, c3, numV, wrap_i]
  have h' : thereB bs.length x z = true := thereB_true.2 (by omega)
  rw [if_pos h']
  simp (disch := omega) [c1, c2, c3, numV, wrap_i]
  refine wp_loop (fun k s st => st = memOf nil bs ∧ ∃ i, i + k = z ∧ s .h = .slice (if nil = true then none else some (0, 0)) 1 bs.length bs.length false ∧ s (.o .h) = .int .i64 x ∧
    s (.i .h) = .int .i64 (z : Int) ∧ s (.o (.i (.o .h))) = .int .i64 (i : Int) ∧ s (.i (.o (.o .h))) = .int .i64 ((be ((bs.drop x.toNat).take i) : Nat) : Int)) z ?_ (by omega) ?_
  · refine ⟨rfl, 0, by omega, ?_, ?_, ?_, ?_, ?_⟩ <;> simp [be]
  · rintro k s st ⟨rfl, i, hi, s1, s2, s3, s4, s5⟩
    cases k with
    | zero =>
      have : i = z := by omega
      subst this
      simp [s1, s2, s3, s4, s5]
    | succ k =>
      have hiz : i < z := by omega
      have hnf : nil = false := by
        cases nil with
        | false => rfl
        | true => rw [hnil rfl] at c3 c2; simp at c2 c3; omega
      subst hnf
      have hlt : x.toNat + i < bs.length := by omega
      obtain ⟨b, hbx⟩ : ∃ b, bs[x.toNat + i]? = some b := ⟨_, List.getElem?_eq_getElem hlt⟩
      have hb256 : b < 256 := hb b (List.mem_of_getElem? hbx)
      have hbe : be ((bs.drop x.toNat).take i) < 4294967296 := by
        have h1 := be_lt i ((bs.drop x.toNat).take i) (fun y hy => hb y (List.mem_of_mem_drop (List.mem_of_mem_take hy))) (by simp; omega)
        have h2 : 256 ^ i ≤ 256 ^ 4 := Nat.pow_le_pow_right (by omega) (by omega)
        omega
      have hnext : be ((bs.drop x.toNat).take (i + 1)) = be ((bs.drop x.toNat).take i) * 256 + b := by
        rw [List.take_add_one, List.getElem?_drop, hbx]
        exact be_append _ _
      have hti : (x + (i : Int)).toNat = x.toNat + i := by omega
      have hld : loadV (memOf false bs) false 1 (.ptr (some (0, x.toNat + i))) = some (.int .u8 (b : Int)) := by
        refine (load_few (os := [some (.cells false (bytesV bs))]) (i := 0) (own := false) (cs := bytesV bs) rfl).trans ?_
        rw [bytesV_at, hbx]
        rfl
      simp (disch := omega) [s1, s2, s3, s4, s5, hiz, natOf_int, wrap_i, shiftA_some, idxAddr_slice, hti, hld]
      exact ⟨k, by omega, i + 1, by omega, by simp, by rw [hnext]; simp⟩
theorem Num_sound {P : Program} {call : CallT} (hmix : P.follows .mixedOrders = true) (h : Sound P call) {g : Nat} (hc : compF P g = some Num_c) : Sound P (withL call g (lawOf (bytesRd numS))) :=
  h.bytes hmix 5 hc fun nil bs rest u h1 h2 h3 => by
    unfold numS at h3
    split at h3
    · rename_i x z
      split at h3
      · rename_i hz
        cases h3
        obtain ⟨z, rfl⟩ := Int.eq_ofNat_of_zero_le hz.1
        exact ⟨_, Num_run (Nat.le_refl 5) h1 h2 hz.2.2 (by omega)⟩
      · cases h3
    · cases h3
noncomputable def rpartA (bs : List Nat) (x n : Int) (ok : Bool) : Ans :=
  if ok = true then ([newBytes (cutB bs x n)], fun k => .tuple [.slice (some (k, 0)) 1 (cutB bs x n).length (cutB bs x n).length false, .bool true])
  else ([], fun _ => .tuple [.slice none 0 0 0 true, .bool false])
noncomputable def rpartS (nil : Bool) (bs : List Nat) : List V → Option Ans
  | [.int .i64 x, .int .i64 n] => if bs.length ≤ 140737488354000 ∧ (-9223372036854775808 ≤ n ∧ n < 9223372036854775808) then some (rpartA bs x n (thereB bs.length x n)) else none
  | _ => none
def RPartF (call : CallT) (n_ : Nat) : Prop := ∀ st v bs x n, bytesAt st v = some bs → bs.length ≤ 140737488354000 → (-9223372036854775808 ≤ n ∧ n < 9223372036854775808) → call n_ [v, .int .i64 x, .int .i64 n] st = lawOut (some (rpartA bs x n (thereB bs.length x n))) st
noncomputable def osOf (nil : Bool) (bs : List Nat) : List (Option AObj) := if nil = true then [] else [some (.cells false (bytesV bs))]
theorem memOf_os {nil : Bool} {bs : List Nat} : memOf nil bs = few (osOf nil bs) := by unfold memOf osOf; cases nil <;> rfl
theorem left_join {nil : Bool} {bs new : List Nat} {τ : Way} {n : Nat} : Left τ n (memOf nil bs) (cloneR (osOf nil bs) new).2 (.tuple [(cloneR (osOf nil bs) new).1, .bool true]) [newBytes new] [if new = [] then (osOf nil bs).length else (osOf nil bs).length + 1]
    (.tuple [.slice (some (n, 0)) 1 new.length new.length false, .bool true]) := by
  rw [memOf_os]
  unfold cloneR
  by_cases e : new = []
  · subst e
    simp only [if_true]
    exact Left.bytesOk (c := 0) (f := true) (b := true) (bs := []) (Nat.le_refl _) (by rw [few_heap]; simp)
  · rw [if_neg e, if_neg e]
    exact Left.bytesOk (Nat.le_succ _) (by rw [few_heap]; simp)
theorem first_cut {nil : Bool} {bs : List Nat} {x n : Int} {l : List (Option AObj)} {c : Nat} {f : Bool} (h : thereB bs.length x n = true) (hnil : nil = true → bs = []) :
    firstN (few (osOf nil bs ++ l)) 1 n.toNat (.slice (shiftA (if nil = true then none else some (0, 0)) x.toNat) 1 n.toNat c f) = some (bytesV (cutB bs x n)) := by
  have hh := thereB_true.1 h
  cases nil with
  | true =>
    have := hnil rfl
    subst this
    simp [cutB, bytesV]
    rfl
  | false =>
    show sel (Nat.beq 1 1 && Nat.ble n.toNat n.toNat) ((few (some (.cells false (bytesV bs)) :: l)).loadN 0 (0 + x.toNat) (n.toNat * 1)) none = _
    rw [ble_self, Nat.beq_refl, Nat.mul_one, Nat.zero_add]
    exact (loadN_few (os := some (.cells false (bytesV bs)) :: l) (own := false) (cs := bytesV bs) rfl (by rw [bytesV_len]; omega)).trans (by rw [cut_few])
theorem append_clone {os : List (Option AObj)} {new : List Nat} (hs : new.length ≤ 140737488354816) :
    appendV (few (os ++ [some (.cells true [])])) 1 1 (.slice (some (os.length, 0)) 1 0 0 true) (some new.length) (some (bytesV new)) = some ((cloneR os new).1, (cloneR os new).2) := by
  show _ = some (cloneR os new)
  unfold cloneR
  split
  · rename_i e
    subst e
    rfl
  · rename_i e
    have hpos : 0 < new.length := by
      cases new with
      | nil => exact absurd rfl e
      | cons a l => simp
    rw [append_new (os := os ++ [some (AObj.cells true [])]) (j := os.length) (n := new.length) (new := bytesV new) join_new hpos bytesV_len hs]
    simp [newBytes, bytesV_nil]
theorem cloneR_plain {os : List (Option AObj)} {new : List Nat} : (cloneR os new).1.plain = true := by unfold cloneR; split <;> rfl
theorem RPart_sound {P : Program} {call : CallT} (hmix : P.follows .mixedOrders = true) (h : Sound P call) {g : Nat} (hc : compF P g = some RPart_c) : Sound P (withL call g (lawOf (bytesRdA rpartS))) :=
  h.bytesA hmix 1 hc fun nil bs rest os f h1 h2 h3 => by
    unfold rpartS at h3
    split at h3
    · rename_i x n
      split at h3
      · rename_i hl
        simp only [Option.some.injEq] at h3
        cases hth : thereB bs.length x n with
        | false =>
          rw [hth] at h3
          cases h3
          have hh : ¬ (0 ≤ x ∧ x ≤ bs.length ∧ 0 ≤ n ∧ n ≤ bs.length - x) := fun e => by rw [thereB_true.2 e] at hth; cases hth
          refine ⟨_, memOf nil bs, [], ?_, fun τ m => Left.flat rfl⟩
          refine enter_eq ?_
          unfold slOf
          by_cases c0 : n < 0
          · simp (disch := omega) [c0]
          by_cases c1 : x < 0
          · simp (disch := omega) [c0, c1]
          by_cases c2 : (bs.length : Int) < x
          · simp (disch := omega) [c0, c1, c2]
          have c3 : (bs.length : Int) - x < n := by omega
          simp (disch := omega) [c0, c1, c2, c3, wrap_i]
        | true =>
          have hh := thereB_true.1 hth
          rw [hth] at h3
          cases h3
          have hlen := Pk.cut_len hth
          refine ⟨_, _, _, ?_, fun τ m => left_join⟩
          refine enter_eq ?_
          have c0 : ¬ n < 0 := by omega
          have c1 : ¬ x < 0 := by omega
          have c2 : ¬ (bs.length : Int) < x := by omega
          have c3 : ¬ (bs.length : Int) - x < n := by omega
          have hsub : (x + n).toNat - x.toNat = n.toNat := by omega
          have happ := append_clone (os := osOf nil bs) (new := cutB bs x n) (by omega)
          rw [hlen] at happ
          have hfirst : ∀ l c f, firstN (few (osOf nil bs ++ l)) 1 n.toNat (.slice (shiftA (if nil = true then none else some (0, 0)) x.toNat) 1 n.toNat c f) = some (bytesV (cutB bs x n)) := fun l c f => first_cut hth h1
          rw [memOf_os]
          unfold slOf
          simp (disch := omega) [c0, c1, c2, c3, wrap_i, slice_lohiI, hsub, few_alloc, fill, repN, lenOf, firstNo, hfirst, happ, cloneR_plain]
      · cases h3
    · cases h3
theorem RPart_fact {call : CallT} {g : Nat} : RPartF (withL call g (lawOf (bytesRdA rpartS))) g := by
  intro st v bs x n hb hl hn
  rw [bytesA_call hb rfl]
  show lawOut (if bs.length ≤ 140737488354000 ∧ (-9223372036854775808 ≤ n ∧ n < 9223372036854775808) then some (rpartA bs x n (thereB bs.length x n)) else none) st = _
  rw [if_pos ⟨hl, hn⟩]
end Go.Vabs.L2

namespace Go.Vabs.Sa
set_option linter.unusedVariables false
set_option linter.unusedSimpArgs false
set_option maxRecDepth 10000
def Index_c : AFunc := AFunc.mk 19 (.seq (.reg [AOper.mk (some (.i (.o .h))) (.mv (.c (.int .i64 (.ofNat 0)))) none]) (.seq (.seq (.reg [AOper.mk (some (.o (.o (.o .h)))) (.len .slice (.t .h)) none, AOper.mk (some (.i (.o (.o .h)))) (.mv (.c (.int .i64 (.ofNat 0)))) none]) (.block 0 (.loop (.seq (.reg [AOper.mk (some (.o (.i (.o .h)))) (.bin .lss (.val .int) (.t (.i (.o (.o .h)))) (.t (.o (.o (.o .h))))) none]) (.seq (.cond (.t (.o (.i (.o .h)))) .skip (.exit 0)) (.seq (.block 1 (.seq (.reg [AOper.mk (some (.o (.i .h))) (.mv (.t (.i (.o (.o .h))))) none]) (.seq (.reg [AOper.mk (some (.i (.i (.i .h)))) (.idxAddr (.slice 1) (.t .h) (.t (.o (.i .h)))) none, AOper.mk (some (.o (.o (.o (.o .h))))) (.load false 1 (.t (.i (.i (.i .h))))) none, AOper.mk (some (.i (.o (.o (.o .h))))) (.bin .eql (.val .str) (.t (.o .h)) (.t (.o (.o (.o (.o .h)))))) none]) (.cond (.t (.i (.o (.o (.o .h))))) (.seq (.reg [AOper.mk (some (.i (.o .h))) (.mv (.t (.o (.i .h)))) none]) .ret) .skip)))) (.reg [AOper.mk (some (.i (.i (.o (.o .h))))) (.bin .add (.val .int) (.t (.i (.o (.o .h)))) (.c (.int .i64 (.ofNat 1)))) none, AOper.mk (some (.i (.o (.o .h)))) (.mv (.t (.i (.i (.o (.o .h)))))) none]))))))) (.seq (.reg [AOper.mk (some (.i (.o .h))) (.mv (.c (.int .i64 (.negSucc 0)))) none]) .ret))) [.tmp (.i (.o .h))]
def Contains_c (n_Index : Nat) : AFunc := AFunc.mk 9 (.seq (.reg [AOper.mk (some (.i (.o .h))) (.mv (.c (.bool false))) none]) (.seq (.reg [AOper.mk (some (.o (.o (.o .h)))) (.call n_Index [.t .h, .t (.o .h)]) none, AOper.mk (some (.i (.o (.o .h)))) (.bin .geq (.val .int) (.t (.o (.o (.o .h)))) (.c (.int .i64 (.ofNat 0)))) none, AOper.mk (some (.i (.o .h))) (.mv (.t (.i (.o (.o .h))))) none]) .ret)) [.tmp (.i (.o .h))]
attribute [local simp] wp_skip wp_ret wp_exit wp_reg wp_seq wp_cond wp_block thenQ_normal thenQ_ret thenQ_exit blockQ_normal blockQ_ret blockQ_exit wpCond_true wpCond_false wpOps_nil wpVal_some wpGuard_true wpGuard_false wpOps_guard wpOps_cons
  put_at put_no ev_c ev_slot posEq_h posEq_o posEq_i posEq_ho posEq_hi posEq_oh posEq_ih posEq_oi posEq_io sel_true sel_false
  okv_some step_mv step_call step_pick pickV_bool step_bin bin_add bin_sub bin_mul bin_eql bin_neq bin_lss bin_leq bin_gtr bin_geq bin_eqb bin_neb bin_eqs bin_nes step_un un_not un_neg step_len len_slice len_str len_const step_extract extractV nth step_convInt conv_int step_convStr step_slice step_idxAddr natOf_nat step_load step_index step_field step_fieldAddr step_build step_minmax
  step_alloc step_bslice bsliceV_some newV_some step_store step_append boolIs_b boolIs_t finQ_ret finQ_normal ressE_nil ressE_cons resE_tmp consO_some initE_nil initE_cons pos_0 pos_1 pos_2 pos_3 pos_4 pos_5 pos_6 pos_7 pos_8 plain_bool plain_int plain_str plain_ptr plain_slice plain_map plain_agg plain_func plain_nilFunc V.undef oneOf_one oneOf_two ble_self
open Go.Vabs.Pk Go.Vabs.Ph
attribute [local simp] step_nilchk nilchk_ptr cells_int cells_bool cells_str cells_slice cells_ptr few_alloc
noncomputable def strsV (ts : List (List Nat)) : List V := ts.map V.str
noncomputable def strsAt (st : St) (v : V) (ts : List (List Nat)) : Prop :=
  match v with
  | .slice none 1 0 0 _ => ts = []
  | .slice (some (i, o)) 1 n c _ => n ≤ c ∧ n = ts.length ∧ ∃ own cs, st.get i = some (.cells own cs) ∧ o + n ≤ cs.length ∧ (cs.drop o).take n = strsV ts
  | .slice none 0 0 0 _ => ts = []
  | _ => False
theorem strsV_len {ts : List (List Nat)} : (strsV ts).length = ts.length := by simp [strsV]
theorem strsV_at {ts : List (List Nat)} {k : Nat} : (strsV ts)[k]? = ts[k]?.map V.str := by simp [strsV]
theorem load_get {st : St} {i o : Nat} {own : Bool} {cs : List V} (h : st.get i = some (.cells own cs)) : loadV st false 1 (.ptr (some (i, o))) = cs[o]? := by
  show st.load1 i o = _
  unfold St.load1
  rw [h]
  exact nth_eq
noncomputable def idxOf (t : List Nat) : List (List Nat) → Nat → Int
  | [], _ => -1
  | x :: l, k => if t = x then (k : Int) else idxOf t l (k + 1)
theorem idxOf_drop {t : List Nat} {ts : List (List Nat)} {k : Nat} {x : List Nat} (h : ts[k]? = some x) : idxOf t (ts.drop k) k = if t = x then (k : Int) else idxOf t (ts.drop (k + 1)) (k + 1) := by
  obtain ⟨hk, he⟩ := List.getElem?_eq_some_iff.1 h
  rw [List.drop_eq_getElem_cons hk, he]
  rfl
theorem Index_run {call : CallT} {lf : Nat} {st : St} {a : Option (Nat × Nat)} {e n c : Nat} {f : Bool} {ts : List (List Nat)} {t : List Nat} (h : strsAt st (.slice a e n c f) ts) (hn : ts.length < lf) (hs : ts.length < 4611686018427387904) :
    enterF call lf [.slice a e n c f, .str t] st Index_c = some (.int .i64 (idxOf t ts 0), st) := by
  refine enter_eq ?_
  have hlen : n = ts.length := by
    unfold strsAt at h
    split at h
    · rename_i h1; cases h1; rw [h]; rfl
    · rename_i h1; cases h1; exact h.2.1
    · rename_i h1; cases h1; rw [h]; rfl
    · exact h.elim
  simp (disch := omega)
  refine wp_loop (fun k s st' => st' = st ∧ ∃ i, i + k = ts.length ∧ s .h = .slice a e n c f ∧ s (.o .h) = .str t ∧ s (.o (.o (.o .h))) = .int .i64 (ts.length : Int) ∧ s (.i (.o (.o .h))) = .int .i64 (i : Int) ∧ idxOf t ts 0 = idxOf t (ts.drop i) i) ts.length ?_ hn ?_
  · refine ⟨rfl, 0, by omega, ?_, ?_, ?_, ?_, ?_⟩ <;> simp [hlen]
  · rintro k s st' ⟨rfl, i, hi, s1, s2, s3, s4, s5⟩
    cases k with
    | zero =>
      have hl : i = ts.length := by omega
      subst hl
      rw [List.drop_length] at s5
      simp [s1, s2, s3, s4, s5, idxOf]
    | succ k =>
      have hlt : i < ts.length := by omega
      obtain ⟨x, hx⟩ : ∃ x, ts[i]? = some x := ⟨_, List.getElem?_eq_getElem hlt⟩
      unfold strsAt at h
      split at h
      · rename_i h1; rw [h] at hlt; simp at hlt
      · rename_i j o n' c' f' h1
        cases h1
        obtain ⟨hnc, hnl, own, cs, hg, hm, hcs⟩ := h
        have hld : loadV st' false 1 (.ptr (some (j, o + i))) = some (.str x) := by
          rw [load_get hg]
          have : ((cs.drop o).take n)[i]? = some (.str x) := by rw [hcs, strsV_at, hx]; rfl
          rw [List.getElem?_take_of_lt (by omega), List.getElem?_drop] at this
          exact this
        rw [idxOf_drop hx] at s5
        by_cases hc : t = x
        · subst hc
          rw [if_pos rfl] at s5
          simp (disch := omega) [s1, s2, s3, s4, s5, hlt, natOf_int, idxAddr_slice, hld]
        · rw [if_neg hc] at s5
          simp (disch := omega) [s1, s2, s3, s4, hlt, natOf_int, idxAddr_slice, hld, hc, wrap_i]
          exact ⟨k, by omega, i + 1, by omega, by simp, s5⟩
      · rename_i h1; rw [h] at hlt; simp at hlt
      · exact h.elim
theorem idxOf_neg {t : List Nat} : ∀ (ts : List (List Nat)) (k : Nat), (0 ≤ idxOf t ts k ↔ t ∈ ts)
  | [], k => by simp [idxOf]
  | x :: l, k => by
    unfold idxOf
    split
    · rename_i h; subst h; simp
    · rename_i h; rw [idxOf_neg l (k + 1)]; simp [h]
def IndexF (lf : Nat) (call : CallT) (g : Nat) : Prop := ∀ st a e n c f ts t, strsAt st (.slice a e n c f) ts → ts.length < lf → ts.length < 4611686018427387904 → call g [.slice a e n c f, .str t] st = some (.int .i64 (idxOf t ts 0), st)
def ContF (lf : Nat) (call : CallT) (g : Nat) : Prop := ∀ st a e n c f ts t, strsAt st (.slice a e n c f) ts → ts.length < lf → ts.length < 4611686018427387904 → call g [.slice a e n c f, .str t] st = some (.bool (decide (t ∈ ts)), st)
theorem IndexF.code {base : CallT} {g lf : Nat} : IndexF lf (withF base g lf Index_c) g := fun st a e n c f ts t h1 h2 h3 => by rw [withF_same]; exact Index_run h1 h2 h3
theorem Contains_run {call : CallT} {lf lf' ni : Nat} (hi : IndexF lf call ni) {st : St} {a : Option (Nat × Nat)} {e n c : Nat} {f : Bool} {ts : List (List Nat)} {t : List Nat} (h : strsAt st (.slice a e n c f) ts) (hn : ts.length < lf) (hs : ts.length < 4611686018427387904) :
    enterF call lf' [.slice a e n c f, .str t] st (Contains_c ni) = some (.bool (decide (t ∈ ts)), st) := by
  refine enter_eq ?_
  simp [hi _ _ _ _ _ _ _ _ h hn hs, idxOf_neg]
theorem ContF.code {base : CallT} {g lf lf' ni : Nat} (hi : IndexF lf base ni) : ContF lf (Vabs.withF base g lf' (Contains_c ni)) g := fun st a e n c f ts t h1 h2 h3 => by rw [withF_same]; exact Contains_run hi h1 h2 h3
end Go.Vabs.Sa
