/-
  Numbers out of bytes: what the functions of the package of chapter 2 answer.
-/
import Derived.Test.YtkcjhakjelidgaaVabsZc
import Derived.Test.YtkcjhakjelidgaaVabsZg
namespace Go.Vabs.Pk
set_option linter.unusedVariables false
set_option linter.unusedSimpArgs false
set_option maxRecDepth 10000
def there_c : AFunc := AFunc.mk 27 (.seq (.reg [AOper.mk (some (.i (.i .h))) (.mv (.c (.bool false))) none]) (.seq (.reg [AOper.mk (some (.i (.o (.o .h)))) (.bin .geq (.val .int) (.t (.o .h)) (.c (.int .i64 (.ofNat 0)))) none, AOper.mk (some (.o (.i (.o .h)))) (.mv (.t (.i (.o (.o .h))))) none, AOper.mk (some (.i (.o (.i .h)))) (.len .slice (.t .h)) (some (.o (.i (.o .h)), true)), AOper.mk (some (.o (.i (.i .h)))) (.bin .leq (.val .int) (.t (.o .h)) (.t (.i (.o (.i .h))))) (some (.o (.i (.o .h)), true)), AOper.mk (some (.i (.i (.i .h)))) (.pick (.t (.o (.i (.o .h)))) (.t (.o (.i (.i .h)))) (.c (.bool false))) none, AOper.mk (some (.o (.o (.o (.o .h))))) (.mv (.t (.i (.i (.i .h))))) none, AOper.mk (some (.o (.i (.o (.o .h))))) (.bin .geq (.val .int) (.t (.i .h)) (.c (.int .i64 (.ofNat 0)))) (some (.o (.o (.o (.o .h))), true)), AOper.mk (some (.i (.i (.o (.o .h))))) (.pick (.t (.o (.o (.o (.o .h))))) (.t (.o (.i (.o (.o .h))))) (.c (.bool false))) none, AOper.mk (some (.o (.o (.i (.o .h))))) (.mv (.t (.i (.i (.o (.o .h)))))) none, AOper.mk (some (.i (.i (.i (.o .h))))) (.len .slice (.t .h)) (some (.o (.o (.i (.o .h))), true)), AOper.mk (some (.i (.o (.o (.i .h))))) (.bin .sub (.val .int) (.t (.i (.i (.i (.o .h))))) (.t (.o .h))) (some (.o (.o (.i (.o .h))), true)), AOper.mk (some (.o (.i (.o (.i .h))))) (.bin .leq (.val .int) (.t (.i .h)) (.t (.i (.o (.o (.i .h)))))) (some (.o (.o (.i (.o .h))), true)), AOper.mk (some (.i (.i (.o (.i .h))))) (.pick (.t (.o (.o (.i (.o .h))))) (.t (.o (.i (.o (.i .h))))) (.c (.bool false))) none, AOper.mk (some (.i (.i .h))) (.mv (.t (.i (.i (.o (.i .h)))))) none]) .ret)) [.tmp (.i (.i .h))]
def Clone_c : AFunc := AFunc.mk 8 (.seq (.reg [AOper.mk (some (.i .h)) (.mv (.c (.slice none 0 0 0 true))) none]) (.seq (.seq (.reg [AOper.mk (some (.i (.o .h))) (.bin .eql (.nils .slice) (.t .h) (.c (.slice none 0 0 0 true))) none]) (.cond (.t (.i (.o .h))) (.seq (.reg [AOper.mk (some (.i .h)) (.mv (.c (.slice none 0 0 0 true))) none]) .ret) .skip)) (.seq (.reg [AOper.mk (some (.o (.i .h))) (.bslice 1 0 [.int .u8 (.ofNat 0)] []) none, AOper.mk (some (.o (.o (.o .h)))) (.append 1 1 (.t (.o (.i .h))) (.t .h)) none, AOper.mk (some (.i .h)) (.mv (.t (.o (.o (.o .h))))) none]) .ret))) [.tmp (.i .h)]
attribute [local simp] wp_skip wp_ret wp_exit wp_reg wp_seq wp_cond wp_block thenQ_normal thenQ_ret thenQ_exit blockQ_normal blockQ_ret blockQ_exit wpCond_true wpCond_false wpOps_nil wpVal_some wpGuard_true wpGuard_false wpOps_guard wpOps_cons
  put_at put_no ev_c ev_slot posEq_h posEq_o posEq_i posEq_ho posEq_hi posEq_oh posEq_ih posEq_oi posEq_io sel_true sel_false
  okv_some step_mv step_call step_pick pickV_bool step_bin bin_add bin_sub bin_mul bin_eql bin_neq bin_lss bin_leq bin_gtr bin_geq bin_eqb bin_neb bin_eqs bin_nes step_un un_not un_neg step_len len_slice len_str len_const step_extract extractV nth step_convInt conv_int step_convStr step_slice step_idxAddr natOf_nat step_load step_index step_field step_fieldAddr step_build step_minmax
  step_alloc step_bslice bsliceV_some newV_some step_store step_append boolIs_b boolIs_t finQ_ret finQ_normal ressE_nil ressE_cons resE_tmp consO_some initE_nil initE_cons pos_0 pos_1 pos_2 pos_3 pos_4 pos_5 pos_6 pos_7 pos_8 plain_bool plain_int plain_str plain_ptr plain_slice plain_map plain_agg plain_func plain_nilFunc V.undef oneOf_one oneOf_two ble_self
def be (l : List Nat) : Nat := l.foldl (fun n b => n * 256 + b) 0
/-- Are k from x on there? -/
def thereB (n : Nat) (x k : Int) : Bool := decide (0 ≤ x ∧ x ≤ n ∧ 0 ≤ k ∧ k ≤ n - x)
def num (bs : List Nat) (x : Int) (z : Nat) : Option Nat := if thereB bs.length x z = true then some (be ((bs.drop x.toNat).take z)) else none
def numV (o : Option Nat) : V := .tuple [.int .i64 ((o.getD 0 : Nat) : Int), .bool o.isSome]

theorem there_run {call : CallT} {lf : Nat} {a : Option (Nat × Nat)} {n c : Nat} {f : Bool} {x k : Int} {st : St} (hn : n < 9223372036854775808) :
    enterF call lf [.slice a 1 n c f, .int .i64 x, .int .i64 k] st there_c = some (.bool (thereB n x k), st) := by
  refine enter_eq ?_
  unfold thereB
  by_cases h1 : 0 ≤ x
  · by_cases h2 : x ≤ n
    · by_cases h3 : 0 ≤ k
      · by_cases h4 : k ≤ n - x
        · simp (disch := omega) [h1, h2, h3, h4, wrap_i]
        · simp (disch := omega) [h1, h2, h3, h4, wrap_i]
      · simp (disch := omega) [h1, h2, h3, wrap_i]
    · simp [h1, h2]
  · simp [h1]

theorem bin_or {eq : EqKind} {a b : Nat} (ha : a < 9223372036854775808) (hb : b < 9223372036854775808) : binV .or eq (.int .i64 (a : Int)) (.int .i64 (b : Int)) = some (.int .i64 ((a ||| b : Nat) : Int)) := by
  simp only [binV, if_true, arith]
  show (match sel (Nat.blt a 9223372036854775808 && Nat.blt b 9223372036854775808) (some (Int.ofNat (Nat.lor a b))) _ with | some r => some (V.int .i64 r) | none => none) = _
  rw [blt_t ha, blt_t hb]
  rfl
/-- What is known of a call of 'number'. -/
def NumF (call : CallT) (n : Nat) : Prop := ∀ st v bs x (z : Nat), bytesAt st v = some bs → bs.length < 9223372036854775808 → z ≤ 4 → call n [v, .int .i64 x, .int .i64 (z : Int)] st = some (numV (num bs x z), st)
/-- Of one that asks for so many. -/
def UF (z : Nat) (call : CallT) (n : Nat) : Prop := ∀ st v bs x, bytesAt st v = some bs → bs.length < 9223372036854775808 → call n [v, .int .i64 x] st = some (numV (num bs x z), st)
theorem NumF.other {call : CallT} {n g : Nat} {l : List V → St → Option (V × St)} (h : NumF call n) (hne : n ≠ g) : NumF (withL call g l) n := fun st v bs x z a b c => by rw [withL_other hne]; exact h st v bs x z a b c
theorem UF.other {z : Nat} {call : CallT} {n g : Nat} {l : List V → St → Option (V × St)} (h : UF z call n) (hne : n ≠ g) : UF z (withL call g l) n := fun st v bs x a b => by rw [withL_other hne]; exact h st v bs x a b
/- SIGNED -/
def sgn (z : Nat) (n : Nat) : Int := if 2 ^ (8 * z - 1) ≤ n then (n : Int) - 2 ^ (8 * z) else n
def sgnV (z : Nat) (o : Option Nat) : V := .tuple [.int .i64 (sgn z (o.getD 0)), .bool o.isSome]
def IF (z : Nat) (call : CallT) (n : Nat) : Prop := ∀ st v bs x, bytesAt st v = some bs → bs.length < 9223372036854775808 → call n [v, .int .i64 x] st = some (sgnV z (num bs x z), st)
def SgnF (call : CallT) (n : Nat) : Prop := ∀ st v bs x (z : Nat), bytesAt st v = some bs → bs.length < 9223372036854775808 → (z = 2 ∨ z = 4) → call n [v, .int .i64 x, .int .i64 (z : Int)] st = some (sgnV z (num bs x z), st)
theorem IF.other {z : Nat} {call : CallT} {n g : Nat} {l : List V → St → Option (V × St)} (h : IF z call n) (hne : n ≠ g) : IF z (withL call g l) n := fun st v bs x a b => by rw [withL_other hne]; exact h st v bs x a b
theorem SgnF.other {call : CallT} {n g : Nat} {l : List V → St → Option (V × St)} (h : SgnF call n) (hne : n ≠ g) : SgnF (withL call g l) n := fun st v bs x z a b c => by rw [withL_other hne]; exact h st v bs x z a b c

/- PARTS -/
/-- A copy of bytes, in a memory where they lie. -/
noncomputable def cloneR (os : List (Option AObj)) (new : List Nat) : V × St :=
  if new = [] then (.slice (some (os.length, 0)) 1 0 0 true, few (os ++ [some (newBytes [])])) else (.slice (some (os.length + 1, 0)) 1 new.length new.length false, few (os ++ [some (newBytes []), some (newBytes new)]))
theorem join_new {os : List (Option AObj)} {o : Option AObj} {l : List (Option AObj)} : ((os ++ o :: l)[os.length]?).join = o := by simp
theorem Clone_run {call : CallT} {lf i o n c : Nat} {f own : Bool} {os : List (Option AObj)} {cs : List V} {new : List Nat} (h : (os[i]?).join = some (.cells own cs)) (hm : o + n ≤ cs.length) (hcs : (cs.drop o).take n = bytesV new) (hn : new.length = n) (hs : n ≤ 140737488354816) :
    enterF call lf [.slice (some (i, o)) 1 n c f] (few os) Clone_c = some (cloneR os new) := by
  have hi : i < os.length := by
    cases hx : os[i]? with
    | none => rw [hx] at h; cases h
    | some y => exact (List.getElem?_eq_some_iff.1 hx).1
  have h2 : ((os ++ [some (AObj.cells true [])])[i]?).join = some (.cells own cs) := by rw [List.getElem?_append_left hi]; exact h
  have hld : (few (os ++ [some (AObj.cells true [])])).loadN i o n = some (bytesV new) := by rw [loadN_few h2 hm, hcs]
  unfold cloneR
  split
  · rename_i e
    subst e
    have hn0 : n = 0 := by simpa using hn.symm
    subst hn0
    refine enter_eq ?_
    simp [bin_eqnil, few_alloc, fill, repN, lenOf, firstNo, firstN, hld, bytesV_nil, append_none, newBytes]
  · rename_i e
    have hpos : 0 < n := by
      cases new with
      | nil => exact absurd rfl e
      | cons a l => rw [← hn]; simp
    have happ := append_new (os := os ++ [some (AObj.cells true [])]) (j := os.length) (n := n) (new := bytesV new) join_new hpos (by rw [bytesV_len, hn]) hs
    refine enter_eq ?_
    simp [bin_eqnil, few_alloc, fill, repN, lenOf, firstNo, firstN, hld, happ, newBytes, hn, bytesV_nil]
theorem Clone_nil {call : CallT} {lf n c : Nat} {f : Bool} {st : St} : enterF call lf [.slice none 1 n c f] st Clone_c = some (.slice none 0 0 0 true, st) := by
  refine enter_eq ?_
  simp [bin_eqnil2]
def CloneF (call : CallT) (n_ : Nat) : Prop :=
  (∀ os i o n c f own cs new, (os[i]?).join = some (AObj.cells own cs) → o + n ≤ cs.length → (cs.drop o).take n = bytesV new → new.length = n → n ≤ 140737488354816 → call n_ [.slice (some (i, o)) 1 n c f] (few os) = some (cloneR os new)) ∧
  ∀ n c f st, call n_ [.slice none 1 n c f] st = some (.slice none 0 0 0 true, st)
def ThereF (call : CallT) (nt : Nat) : Prop := ∀ a n c f x k st, n < 9223372036854775808 → call nt [.slice a 1 n c f, .int .i64 x, .int .i64 k] st = some (.bool (thereB n x k), st)
theorem ThereF.code {base : CallT} {g lf : Nat} : ThereF (withF base g lf there_c) g := fun a l c f x k st h => by rw [withF_same]; exact there_run h
theorem ThereF.withF {call : CallT} {n g lf : Nat} {fn : AFunc} (h : ThereF call n) (hne : n ≠ g) : ThereF (withF call g lf fn) n := fun a l c f x k st e => by rw [withF_other hne]; exact h a l c f x k st e
theorem ThereF.other {call : CallT} {n g : Nat} {l : List V → St → Option (V × St)} (h : ThereF call n) (hne : n ≠ g) : ThereF (withL call g l) n := fun a l c f x k st e => by rw [withL_other hne]; exact h a l c f x k st e
theorem CloneF.code {base : CallT} {g lf : Nat} : CloneF (Vabs.withF base g lf Clone_c) g :=
  ⟨fun os i o n c f own cs new h1 h2 h3 h4 h5 => by rw [withF_same]; exact Clone_run h1 h2 h3 h4 h5, fun n c f st => by rw [withF_same]; exact Clone_nil⟩
theorem CloneF.withF {call : CallT} {n g lf : Nat} {fn : AFunc} (h : CloneF call n) (hne : n ≠ g) : CloneF (Vabs.withF call g lf fn) n :=
  ⟨fun os i o m c f own cs new h1 h2 h3 h4 h5 => by rw [withF_other hne]; exact h.1 os i o m c f own cs new h1 h2 h3 h4 h5, fun m c f st => by rw [withF_other hne]; exact h.2 m c f st⟩
theorem CloneF.other {call : CallT} {n g : Nat} {l : List V → St → Option (V × St)} (h : CloneF call n) (hne : n ≠ g) : CloneF (withL call g l) n :=
  ⟨fun os i o m c f own cs new h1 h2 h3 h4 h5 => by rw [withL_other hne]; exact h.1 os i o m c f own cs new h1 h2 h3 h4 h5, fun m c f st => by rw [withL_other hne]; exact h.2 m c f st⟩

/-- The bytes from x on, n of them. -/
def cutB (bs : List Nat) (x n : Int) : List Nat := (bs.drop x.toNat).take n.toNat
/-- What Part answers; nil: where the slice is nil. -/
noncomputable def partA (nil : Bool) (bs : List Nat) (x n : Int) (ok : Bool) : Ans :=
  if ok = true then (if nil = true then ([], fun _ => .tuple [.slice none 0 0 0 true, .bool true])
    else ([newBytes (cutB bs x n)], fun k => .tuple [.slice (some (k, 0)) 1 (cutB bs x n).length (cutB bs x n).length false, .bool true]))
  else ([], fun _ => .tuple [.slice none 0 0 0 true, .bool false])
def PartF (call : CallT) (n_ : Nat) : Prop := ∀ st v bs x n, bytesAt st v = some bs → bs.length ≤ 140737488351232 → call n_ [v, .int .i64 x, .int .i64 n] st = lawOut (some (partA (isNil v) bs x n (thereB bs.length x n))) st
def FromF (call : CallT) (n_ : Nat) : Prop := ∀ st v bs x, bytesAt st v = some bs → bs.length ≤ 140737488351232 → call n_ [v, .int .i64 x] st = lawOut (some (partA (isNil v) bs x (bs.length - x) (thereB bs.length x 0))) st
theorem PartF.other {call : CallT} {n g : Nat} {l : List V → St → Option (V × St)} (h : PartF call n) (hne : n ≠ g) : PartF (withL call g l) n := fun st v bs x m a b => by rw [withL_other hne]; exact h st v bs x m a b
theorem FromF.other {call : CallT} {n g : Nat} {l : List V → St → Option (V × St)} (h : FromF call n) (hne : n ≠ g) : FromF (withL call g l) n := fun st v bs x a b => by rw [withL_other hne]; exact h st v bs x a b

end Go.Vabs.Pk

namespace Go.Vabs.Ph
set_option linter.unusedVariables false
set_option linter.unusedSimpArgs false
set_option maxRecDepth 10000
def Pick_c : AFunc := AFunc.mk 14 (.seq (.reg [AOper.mk (some (.i (.o .h))) (.mv (.c (.int .i64 (.ofNat 0)))) none]) (.seq (.reg [AOper.mk (some (.o (.o (.o .h)))) (.bin .rem (.val .int) (.t .h) (.t (.o .h))) none, AOper.mk (some .h) (.mv (.t (.o (.o (.o .h))))) none]) (.seq (.seq (.reg [AOper.mk (some (.o (.i (.o .h)))) (.bin .lss (.val .int) (.t .h) (.c (.int .i64 (.ofNat 0)))) none]) (.cond (.t (.o (.i (.o .h)))) (.reg [AOper.mk (some (.i (.o (.i .h)))) (.bin .add (.val .int) (.t .h) (.t (.o .h))) none, AOper.mk (some .h) (.mv (.t (.i (.o (.i .h))))) none]) .skip)) (.seq (.reg [AOper.mk (some (.i (.o .h))) (.mv (.t .h)) none]) .ret)))) [.tmp (.i (.o .h))]
attribute [local simp] wp_skip wp_ret wp_exit wp_reg wp_seq wp_cond wp_block thenQ_normal thenQ_ret thenQ_exit blockQ_normal blockQ_ret blockQ_exit wpCond_true wpCond_false wpOps_nil wpVal_some wpGuard_true wpGuard_false wpOps_guard wpOps_cons
  put_at put_no ev_c ev_slot posEq_h posEq_o posEq_i posEq_ho posEq_hi posEq_oh posEq_ih posEq_oi posEq_io sel_true sel_false
  okv_some step_mv step_call step_pick pickV_bool step_bin bin_add bin_sub bin_mul bin_eql bin_neq bin_lss bin_leq bin_gtr bin_geq bin_eqb bin_neb bin_eqs bin_nes step_un un_not un_neg step_len len_slice len_str len_const step_extract extractV nth step_convInt conv_int step_convStr step_slice step_idxAddr natOf_nat step_load step_index step_field step_fieldAddr step_build step_minmax
  step_alloc step_bslice bsliceV_some newV_some step_store step_append boolIs_b boolIs_t finQ_ret finQ_normal ressE_nil ressE_cons resE_tmp consO_some initE_nil initE_cons pos_0 pos_1 pos_2 pos_3 pos_4 pos_5 pos_6 pos_7 pos_8 plain_bool plain_int plain_str plain_ptr plain_slice plain_map plain_agg plain_func plain_nilFunc V.undef oneOf_one oneOf_two ble_self
/-- n brought into 0 to m - 1. -/
def pickI (n m : Int) : Int := if Int.tmod n m < 0 then Int.tmod n m + m else Int.tmod n m
def PickF (call : CallT) (g : Nat) : Prop := ∀ n m st, 0 < m → m < 4611686018427387904 → call g [.int .i64 n, .int .i64 m] st = some (.int .i64 (pickI n m), st)
theorem Pick_run {call : CallT} {lf : Nat} {n m : Int} {st : St} (h : 0 < m) (hm : m < 4611686018427387904) : enterF call lf [.int .i64 n, .int .i64 m] st Pick_c = some (.int .i64 (pickI n m), st) := by
  have h1 := Int.tmod_lt_of_pos n h
  have h2 := Int.lt_tmod_of_pos n h
  refine enter_eq ?_
  unfold pickI
  by_cases hc : Int.tmod n m < 0
  · simp (disch := omega) [bin_rem, hc, wrap_i]
  · simp (disch := omega) [bin_rem, hc, wrap_i]
theorem PickF.code {base : CallT} {g lf : Nat} : PickF (withF base g lf Pick_c) g := fun n m st h1 h2 => by rw [withF_same]; exact Pick_run h1 h2
theorem PickF.other {call : CallT} {n g : Nat} {l : List V → St → Option (V × St)} (h : PickF call n) (hne : n ≠ g) : PickF (withL call g l) n := fun a b st h1 h2 => by rw [withL_other hne]; exact h a b st h1 h2
theorem PickF.withF {call : CallT} {n g lf : Nat} {fn : AFunc} (h : PickF call n) (hne : n ≠ g) : PickF (Vabs.withF call g lf fn) n := fun a b st h1 h2 => by rw [withF_other hne]; exact h a b st h1 h2

end Go.Vabs.Ph

namespace Go.Vabs.Fb
set_option linter.unusedVariables false
set_option linter.unusedSimpArgs false
set_option maxRecDepth 10000
def bit_c : AFunc := AFunc.mk 18 (.seq (.reg [AOper.mk (some (.i (.o .h))) (.mv (.c (.int .i64 (.ofNat 0)))) none]) (.seq (.reg [AOper.mk (some (.i (.i .h))) (.nilchk (.t .h)) none, AOper.mk (some (.o (.o (.o .h)))) (.fieldAddr 0 (.t (.i (.i .h)))) none, AOper.mk (some (.i (.o (.o .h)))) (.load false 1 (.t (.o (.o (.o .h))))) none, AOper.mk (some (.i (.i (.o .h)))) (.bin .quo (.val .int) (.t (.o .h)) (.c (.int .i64 (.ofNat 8)))) none, AOper.mk (some (.o (.o (.i .h)))) (.idxAddr (.slice 1) (.t (.i (.o (.o .h)))) (.t (.i (.i (.o .h))))) none, AOper.mk (some (.i (.o (.i .h)))) (.load false 1 (.t (.o (.o (.i .h))))) none, AOper.mk (some (.i (.i (.i .h)))) (.bin .rem (.val .int) (.t (.o .h)) (.c (.int .i64 (.ofNat 8)))) none, AOper.mk (some (.o (.o (.o (.o .h))))) (.bin .shr (.val .int) (.t (.i (.o (.i .h)))) (.t (.i (.i (.i .h))))) none, AOper.mk (some (.i (.o (.o (.o .h))))) (.conv (.int .i64) (.t (.o (.o (.o (.o .h)))))) none, AOper.mk (some (.o (.i (.o (.o .h))))) (.bin .and (.val .int) (.t (.i (.o (.o (.o .h))))) (.c (.int .i64 (.ofNat 1)))) none, AOper.mk (some (.i (.o .h))) (.mv (.t (.o (.i (.o (.o .h)))))) none]) .ret)) [.tmp (.i (.o .h))]
def Take_c (n_bit : Nat) : AFunc := AFunc.mk 50 (.seq (.reg [AOper.mk (some (.i (.o .h))) (.mv (.c (.int .i64 (.ofNat 0)))) none, AOper.mk (some (.o (.i .h))) (.mv (.c (.bool false))) none]) (.seq (.reg [AOper.mk (some (.o (.i (.o .h)))) (.minmax false (.t (.o .h)) [.c (.int .i64 (.ofNat 24))]) none, AOper.mk (some (.i (.i (.o .h)))) (.minmax true (.c (.int .i64 (.ofNat 0))) [.t (.o (.i (.o .h)))]) none, AOper.mk (some (.o .h)) (.mv (.t (.i (.i (.o .h))))) none]) (.seq (.seq (.dreg [(AOper.mk (some (.o (.o (.i .h)))) (.mv (.t (.o .h))) none, []), (AOper.mk (some (.i (.o (.i .h)))) (.mv (.t .h)) none, []), (AOper.mk (some (.o (.i (.i .h)))) (.nilchk (.t (.i (.o (.i .h))))) none, []), (AOper.mk (some (.i (.i (.i .h)))) (.fieldAddr 0 (.t (.o (.i (.i .h))))) none, []), (AOper.mk (some (.o (.o (.o (.o .h))))) (.load false 1 (.t (.i (.i (.i .h))))) none, [10]), (AOper.mk (some (.i (.o (.o (.o .h))))) (.len .slice (.t (.o (.o (.o (.o .h)))))) none, []), (AOper.mk (some (.o (.i (.o (.o .h))))) (.bin .mul (.val .int) (.c (.int .i64 (.ofNat 8))) (.t (.i (.o (.o (.o .h)))))) none, []), (AOper.mk (some (.i (.i (.o (.o .h))))) (.mv (.t .h)) none, []), (AOper.mk (some (.o (.o (.i (.o .h))))) (.nilchk (.t (.i (.i (.o (.o .h)))))) none, []), (AOper.mk (some (.i (.o (.i (.o .h))))) (.fieldAddr 1 (.t (.o (.o (.i (.o .h)))))) none, []), (AOper.mk (some (.o (.i (.i (.o .h))))) (.load false 1 (.t (.i (.o (.i (.o .h)))))) none, [4]), (AOper.mk (some (.i (.i (.i (.o .h))))) (.bin .sub (.val .int) (.t (.o (.i (.o (.o .h))))) (.t (.o (.i (.i (.o .h)))))) none, []), (AOper.mk (some (.o (.o (.o (.i .h))))) (.bin .gtr (.val .int) (.t (.o (.o (.i .h)))) (.t (.i (.i (.i (.o .h)))))) none, [])]) (.cond (.t (.o (.o (.o (.i .h))))) (.seq (.reg [AOper.mk (some (.i (.o .h))) (.mv (.c (.int .i64 (.ofNat 0)))) none, AOper.mk (some (.o (.i .h))) (.mv (.c (.bool false))) none]) .ret) .skip)) (.seq (.reg [AOper.mk (some (.i (.i .h))) (.mv (.c (.int .i64 (.ofNat 0)))) none]) (.seq (.seq (.reg [AOper.mk (some (.i (.o (.o (.i .h))))) (.mv (.t (.o .h))) none, AOper.mk (some (.o (.i (.o (.i .h))))) (.mv (.c (.int .i64 (.ofNat 0)))) none]) (.block 0 (.loop (.seq (.reg [AOper.mk (some (.i (.i (.o (.i .h))))) (.bin .lss (.val .int) (.t (.o (.i (.o (.i .h))))) (.t (.i (.o (.o (.i .h)))))) none]) (.seq (.cond (.t (.i (.i (.o (.i .h))))) .skip (.exit 0)) (.seq (.block 1 (.seq (.reg [AOper.mk (some (.o (.o (.o .h)))) (.mv (.t (.o (.i (.o (.i .h)))))) none]) (.reg [AOper.mk (some (.o (.o (.o (.o (.o .h)))))) (.nilchk (.t .h)) none, AOper.mk (some (.i (.o (.o (.o (.o .h)))))) (.fieldAddr 1 (.t (.o (.o (.o (.o (.o .h))))))) none, AOper.mk (some (.o (.i (.o (.o (.o .h)))))) (.load false 1 (.t (.i (.o (.o (.o (.o .h))))))) none, AOper.mk (some (.o (.o (.i (.o (.o .h)))))) (.bin .add (.val .int) (.t (.o (.i (.o (.o (.o .h)))))) (.t (.o (.o (.o .h))))) none, AOper.mk (some (.i (.o (.i (.o (.o .h)))))) (.call n_bit [.t .h, .t (.o (.o (.i (.o (.o .h)))))]) none, AOper.mk (some (.i (.i (.i (.o (.o .h)))))) (.bin .shl (.val .int) (.t (.i (.o (.i (.o (.o .h)))))) (.t (.o (.o (.o .h))))) none, AOper.mk (some (.o (.o (.o (.i (.o .h)))))) (.bin .or (.val .int) (.t (.i (.i .h))) (.t (.i (.i (.i (.o (.o .h))))))) none, AOper.mk (some (.i (.i .h))) (.mv (.t (.o (.o (.o (.i (.o .h))))))) none]))) (.reg [AOper.mk (some (.i (.o (.o (.i (.o .h)))))) (.bin .add (.val .int) (.t (.o (.i (.o (.i .h))))) (.c (.int .i64 (.ofNat 1)))) none, AOper.mk (some (.o (.i (.o (.i .h))))) (.mv (.t (.i (.o (.o (.i (.o .h))))))) none]))))))) (.seq (.reg [AOper.mk (some (.i (.i (.o (.i (.o .h)))))) (.nilchk (.t .h)) none, AOper.mk (some (.o (.o (.i (.i (.o .h)))))) (.fieldAddr 1 (.t (.i (.i (.o (.i (.o .h))))))) none, AOper.mk (some (.i (.o (.i (.i (.o .h)))))) (.load false 1 (.t (.o (.o (.i (.i (.o .h))))))) none, AOper.mk (some (.i (.i (.i (.i (.o .h)))))) (.bin .add (.val .int) (.t (.i (.o (.i (.i (.o .h)))))) (.t (.o .h))) none, AOper.mk (some (.o (.o (.o (.o (.i .h)))))) (.nilchk (.t .h)) none, AOper.mk (some (.i (.o (.o (.o (.i .h)))))) (.fieldAddr 1 (.t (.o (.o (.o (.o (.i .h))))))) none, AOper.mk none (.store 1 (.t (.i (.o (.o (.o (.i .h)))))) (.t (.i (.i (.i (.i (.o .h))))))) none]) (.seq (.reg [AOper.mk (some (.i (.o .h))) (.mv (.t (.i (.i .h)))) none, AOper.mk (some (.o (.i .h))) (.mv (.c (.bool true))) none]) .ret))))))) [.tmp (.i (.o .h)), .tmp (.o (.i .h))]
def Align_c : AFunc := AFunc.mk 12 (.reg [AOper.mk (some (.i (.o .h))) (.nilchk (.t .h)) none, AOper.mk (some (.o (.i .h))) (.fieldAddr 1 (.t (.i (.o .h)))) none, AOper.mk (some (.i (.i .h))) (.load false 1 (.t (.o (.i .h)))) none, AOper.mk (some (.o (.o (.o .h)))) (.bin .add (.val .int) (.t (.i (.i .h))) (.c (.int .i64 (.ofNat 7)))) none, AOper.mk (some (.i (.o (.o .h)))) (.bin .quo (.val .int) (.t (.o (.o (.o .h)))) (.c (.int .i64 (.ofNat 8)))) none, AOper.mk (some (.o (.i (.o .h)))) (.bin .mul (.val .int) (.t (.i (.o (.o .h)))) (.c (.int .i64 (.ofNat 8)))) none, AOper.mk (some (.i (.i (.o .h)))) (.nilchk (.t .h)) none, AOper.mk (some (.o (.o (.i .h)))) (.fieldAddr 1 (.t (.i (.i (.o .h))))) none, AOper.mk none (.store 1 (.t (.o (.o (.i .h)))) (.t (.o (.i (.o .h))))) none]) []
def Used_c : AFunc := AFunc.mk 9 (.seq (.reg [AOper.mk (some (.i .h)) (.mv (.c (.int .i64 (.ofNat 0)))) none]) (.seq (.reg [AOper.mk (some (.i (.o .h))) (.nilchk (.t .h)) none, AOper.mk (some (.o (.i .h))) (.fieldAddr 1 (.t (.i (.o .h)))) none, AOper.mk (some (.i (.i .h))) (.load false 1 (.t (.o (.i .h)))) none, AOper.mk (some (.o (.o (.o .h)))) (.bin .add (.val .int) (.t (.i (.i .h))) (.c (.int .i64 (.ofNat 7)))) none, AOper.mk (some (.i (.o (.o .h)))) (.bin .quo (.val .int) (.t (.o (.o (.o .h)))) (.c (.int .i64 (.ofNat 8)))) none, AOper.mk (some (.i .h)) (.mv (.t (.i (.o (.o .h))))) none]) .ret)) [.tmp (.i .h)]
def NewBits_c (n_Clone : Nat) : AFunc := AFunc.mk 7 (.seq (.reg [AOper.mk (some (.i .h)) (.mv (.c (.ptr none))) none]) (.seq (.reg [AOper.mk (some (.i (.o .h))) (.call n_Clone [.t .h]) none, AOper.mk (some (.o (.i .h))) (.build [.slice none 0 0 0 true, .int .i64 (.ofNat 0)] [(0, (1, .t (.i (.o .h))))]) none, AOper.mk (some (.i (.i .h))) (.box (.t (.o (.i .h)))) none, AOper.mk (some (.i .h)) (.mv (.t (.i (.i .h)))) none]) .ret)) [.tmp (.i .h)]
attribute [local simp] wp_skip wp_ret wp_exit wp_reg wp_seq wp_cond wp_block thenQ_normal thenQ_ret thenQ_exit blockQ_normal blockQ_ret blockQ_exit wpCond_true wpCond_false wpOps_nil wpVal_some wpGuard_true wpGuard_false wpOps_guard wpOps_cons
  put_at put_no ev_c ev_slot posEq_h posEq_o posEq_i posEq_ho posEq_hi posEq_oh posEq_ih posEq_oi posEq_io sel_true sel_false
  okv_some step_mv step_call step_pick pickV_bool step_bin bin_add bin_sub bin_mul bin_eql bin_neq bin_lss bin_leq bin_gtr bin_geq bin_eqb bin_neb bin_eqs bin_nes step_un un_not un_neg step_len len_slice len_str len_const step_extract extractV nth step_convInt conv_int step_convStr step_slice step_idxAddr natOf_nat step_load step_index step_field step_fieldAddr step_build step_minmax
  step_alloc step_bslice bsliceV_some newV_some step_store step_append boolIs_b boolIs_t finQ_ret finQ_normal ressE_nil ressE_cons resE_tmp consO_some initE_nil initE_cons pos_0 pos_1 pos_2 pos_3 pos_4 pos_5 pos_6 pos_7 pos_8 plain_bool plain_int plain_str plain_ptr plain_slice plain_map plain_agg plain_func plain_nilFunc V.undef oneOf_one oneOf_two ble_self
attribute [local simp] wp_dreg wpDs_nil wpDs_cons wantedE_none wantedE_some wpDGuard_true wpDGuard_lim wpDGuard_false wpDLim_true wpDVal_free wpDVal_lim back_limited next_limited limF_dir limF_false ahead blt_dec foot_convStr foot_load foot_store foot_alloc foot_box foot_bslice foot_append foot_call okAll_nil okAll_cons pastsOf nthP
  wpRounds_succ roundQ_normal roundQ_ret roundQ_exit cells_int cells_bool cells_str cells_agg cells_slice few_alloc lawOut_nil lawOut_one step_box newV alloc_dir backv back_back back_few next_back few_next resE_cell load_fewC store_fewC first_fewC grow_none grow_some cellsAt_zero cellsAt_succ ownAt_zero ownAt_succ loadC_some storeC_some firstC_some growC_some load_d convStr_d convStr_d0 store_d append_d2 append_d1 first_d2 first_d1 cut takeN nth splice over idOf okPair_dd okPair_dc okPair_cd okPair_cc anyIn_nil anyIn_cons meets_nil meets_nil' meets_cons mem_nil mem_cons nbeq_dec blt_dec ble_dec fill repN firstNo lenOf fieldAddrV fieldV part natOf_zero natOf_one
open Go.Vabs.Ph
theorem mm_min {k : IntKind} {x y : Int} : mmAll false (.int k x) [.int k y] = some (.int k (min x y)) := by
  show (match mm2 false (.int k x) (.int k y) with | some z => mmAll false z [] | none => none) = _
  simp only [mm2, if_true, ltI_eq]
  show some (V.int k (sel (decide (y < x)) y x)) = _
  by_cases h : y < x
  · rw [decide_eq_true h, sel_true, Int.min_eq_right (by omega)]
  · rw [decide_eq_false h, sel_false, Int.min_eq_left (by omega)]
theorem mm_max {k : IntKind} {x y : Int} : mmAll true (.int k x) [.int k y] = some (.int k (max x y)) := by
  show (match mm2 true (.int k x) (.int k y) with | some z => mmAll true z [] | none => none) = _
  simp only [mm2, if_true, ltI_eq]
  show some (V.int k (sel (decide (x < y)) y x)) = _
  by_cases h : x < y
  · rw [decide_eq_true h, sel_true, Int.max_eq_right (by omega)]
  · rw [decide_eq_false h, sel_false, Int.max_eq_left (by omega)]
/- WHAT THE BITS ARE -/
/-- A byte, 0 beyond the end. -/
def byteN (bs : List Nat) (q : Nat) : Nat := bs.getD q 0
/-- A bit: from a byte's lowest one on. -/
def bitN (bs : List Nat) (p : Nat) : Nat := byteN bs (p / 8) / 2 ^ (p % 8) % 2
/-- So many bits from a place on. -/
def takeB (bs : List Nat) (p : Nat) : Nat → Nat
  | 0 => 0
  | n + 1 => takeB bs p n + bitN bs (p + n) * 2 ^ n
theorem bitN_lt (bs : List Nat) (p : Nat) : bitN bs p < 2 := Nat.mod_lt _ (by omega)
theorem takeB_lt (bs : List Nat) (p : Nat) : ∀ n, takeB bs p n < 2 ^ n
  | 0 => by simp [takeB]
  | n + 1 => by
    have h1 := takeB_lt bs p n
    have h2 := bitN_lt bs (p + n)
    have h3 : bitN bs (p + n) * 2 ^ n ≤ 1 * 2 ^ n := Nat.mul_le_mul_right _ (by omega)
    simp only [takeB, Nat.pow_succ]
    omega
theorem or_bit {a b n : Nat} (ha : a < 2 ^ n) : a ||| (b * 2 ^ n) = a + b * 2 ^ n := by
  have := Nat.two_pow_add_eq_or_of_lt ha b
  rw [Nat.mul_comm] at this
  rw [Nat.or_comm, ← this, Nat.add_comm]

/- A READER OF BITS IN MEMORY -/
/-- M at: the memory in which 'at' bits were taken; R: the reader; c: its bytes. -/
structure Rd (M : Int → St) (R c : Nat) (sv : V) (bs : List Nat) : Prop where
  f0 : ∀ p, loadV (M p) false 1 (.ptr (some (R, 0))) = some sv
  f1 : ∀ p, loadV (M p) false 1 (.ptr (some (R, 1))) = some (.int .i64 p)
  put : ∀ p q, storeV (M p) 1 (.ptr (some (R, 1))) (some [.int .i64 q]) = some (V.undef, M q)
  len : ∀ st, lenV st .slice sv = some (.int .i64 (bs.length : Int))
  idx : ∀ q, q < bs.length → idxAddrV (.slice 1) sv (some q) = some (.ptr (some (c, q)))
  byte : ∀ p q, q < bs.length → loadV (M p) false 1 (.ptr (some (c, q))) = some (.int .u8 (byteN bs q : Int))
  small : ∀ q, byteN bs q < 256
section
variable {M : Int → St} {R c : Nat} {sv : V} {bs : List Nat}
theorem natDiv8 {p : Nat} : Int.tdiv (p : Int) 8 = ((p / 8 : Nat) : Int) := rfl
theorem natMod8 {p : Nat} : Int.tmod (p : Int) 8 = ((p % 8 : Nat) : Int) := rfl
theorem bit_run {call : CallT} {lf p : Nat} (h : Rd M R c sv bs) (hp : p < 8 * bs.length) (hl : bs.length ≤ 140737488351232) {m : Int} : enterF call lf [.ptr (some (R, 0)), .int .i64 (p : Int)] (M m) bit_c = some (.int .i64 (bitN bs p : Int), M m) := by
  have hq : p / 8 < bs.length := by omega
  have hs := h.small (p / 8)
  have hx : byteN bs (p / 8) / 2 ^ (p % 8) < 256 := Nat.lt_of_le_of_lt (Nat.div_le_self _ _) hs
  have hbit : bitN bs p = byteN bs (p / 8) / 2 ^ (p % 8) % 2 := rfl
  have e1 : binV .shr (.val .int) (.int .u8 (byteN bs (p / 8) : Int)) (.int .i64 ((p % 8 : Nat) : Int)) = some (.int .u8 ((byteN bs (p / 8) / 2 ^ (p % 8) : Nat) : Int)) := by
    rw [shrI (Int.natCast_nonneg _) (by show ((p % 8 : Nat) : Int) ≤ 8; omega), Int.toNat_natCast]
    rfl
  generalize byteN bs (p / 8) / 2 ^ (p % 8) = w at hx hbit e1
  have e2 : convV (M m) (.int .i64) (.int .u8 (w : Int)) = some (.int .i64 (w : Int)) := by
    rw [conv_int, wrap_i (by omega) (by omega)]
  have e3 : binV .and (.val .int) (.int .i64 (w : Int)) (.int .i64 1) = some (.int .i64 (bitN bs p : Int)) := by
    rw [and_1 (Int.natCast_nonneg _) (by omega), hbit]
    rfl
  have e4 : binV .quo (.val .int) (.int .i64 (p : Int)) (.int .i64 8) = some (.int .i64 ((p / 8 : Nat) : Int)) := by
    rw [bin_quo (by decide), natDiv8, wrap_i (by omega) (by omega)]
  have e5 : binV .rem (.val .int) (.int .i64 (p : Int)) (.int .i64 8) = some (.int .i64 ((p % 8 : Nat) : Int)) := by
    rw [bin_rem (by decide), natMod8]
  have e6 : natOf (.int .i64 ((p / 8 : Nat) : Int)) = some (p / 8) := rfl
  have e7 := h.idx (p / 8) hq
  have e8 := h.byte m (p / 8) hq
  refine enter_eq ?_
  generalize hd : ((p / 8 : Nat) : Int) = d at e4 e6
  generalize hr : ((p % 8 : Nat) : Int) = r at e1 e5
  generalize hb : (byteN bs (p / 8) : Int) = b at e1 e8
  generalize hw : (w : Int) = w' at e1 e2 e3
  simp [step_nilchk, nilchk_ptr, h.f0, e1, e2, e3, e4, e5, e6, e7, e8]
def BitF (call : CallT) (g : Nat) : Prop := ∀ (M : Int → St) (R c : Nat) (sv : V) (bs : List Nat) (p : Nat) (m : Int), Rd M R c sv bs → p < 8 * bs.length → bs.length ≤ 140737488351232 → call g [.ptr (some (R, 0)), .int .i64 (p : Int)] (M m) = some (.int .i64 (bitN bs p : Int), M m)
theorem BitF.code {base : CallT} {g lf : Nat} : BitF (withF base g lf bit_c) g := fun M R c sv bs p m h h1 h2 => by rw [withF_same]; exact bit_run h h1 h2
end

section
variable {M : Int → St} {R c : Nat} {sv : V} {bs : List Nat}
def mmI (n : Int) : Int := max 0 (min n 24)
theorem Used_run {call : CallT} {lf p : Nat} (h : Rd M R c sv bs) (hp : p ≤ 8 * bs.length) (hl : bs.length ≤ 140737488351232) : enterF call lf [.ptr (some (R, 0))] (M p) Used_c = some (.int .i64 (((p + 7) / 8 : Nat) : Int), M p) := by
  have e4 : binV .quo (.val .int) (.int .i64 ((p : Int) + 7)) (.int .i64 8) = some (.int .i64 (((p + 7) / 8 : Nat) : Int)) := by
    rw [bin_quo (by decide), show (p : Int) + 7 = ((p + 7 : Nat) : Int) from by omega, natDiv8, wrap_i (by omega) (by omega)]
  refine enter_eq ?_
  generalize hd : (((p + 7) / 8 : Nat) : Int) = d at e4
  simp (disch := omega) [step_nilchk, nilchk_ptr, h.f1, wrap_i, e4]
theorem Align_run {call : CallT} {lf p : Nat} (h : Rd M R c sv bs) (hp : p ≤ 8 * bs.length) (hl : bs.length ≤ 140737488351232) : enterF call lf [.ptr (some (R, 0))] (M p) Align_c = some (.tuple [], M (((p + 7) / 8 * 8 : Nat) : Int)) := by
  have e4 : binV .quo (.val .int) (.int .i64 ((p : Int) + 7)) (.int .i64 8) = some (.int .i64 (((p + 7) / 8 : Nat) : Int)) := by
    rw [bin_quo (by decide), show (p : Int) + 7 = ((p + 7 : Nat) : Int) from by omega, natDiv8, wrap_i (by omega) (by omega)]
  have e5 : binV .mul (.val .int) (.int .i64 (((p + 7) / 8 : Nat) : Int)) (.int .i64 8) = some (.int .i64 (((p + 7) / 8 * 8 : Nat) : Int)) := by
    rw [bin_mul, wrap_i (by omega) (by omega)]
    congr 2
  refine enter_eq ?_
  generalize hd : (((p + 7) / 8 : Nat) : Int) = d at e4 e5
  generalize hd2 : (((p + 7) / 8 * 8 : Nat) : Int) = d2 at e5
  simp (disch := omega) [step_nilchk, nilchk_ptr, h.f1, h.put, wrap_i, e4, e5]
  rfl
theorem takeB_small (bs : List Nat) (p n : Nat) (h : n ≤ 24) : takeB bs p n < 16777216 := by
  have h1 := takeB_lt bs p n
  have h2 : 2 ^ n ≤ 2 ^ 24 := Nat.pow_le_pow_right (by omega) h
  omega
theorem Take_no {call : CallT} {lf p nb : Nat} (h : Rd M R c sv bs) (hp : p ≤ 8 * bs.length) (hl : bs.length ≤ 140737488351232) {n : Int} (hn : 8 * (bs.length : Int) - p < mmI n) : enterF call lf [.ptr (some (R, 0)), .int .i64 n] (M p) (Take_c nb) = some (.tuple [.int .i64 0, .bool false], M p) := by
  refine enter_eq ?_
  have hm : mmAll true (.int .i64 0) [.int .i64 (min n 24)] = some (.int .i64 (mmI n)) := mm_max
  have hc := h.len
  simp (disch := omega) [step_nilchk, nilchk_ptr, h.f0, h.f1, h.len, anyIn_same, mm_min, hm, wrap_i, dlt_t]
theorem Take_yes {call : CallT} {lf p nb m : Nat} (hlf : 26 ≤ lf) (hb : BitF call nb) (h : Rd M R c sv bs) (hp : p ≤ 8 * bs.length) (hl : bs.length ≤ 140737488351232) {n : Int} (hm : mmI n = (m : Int)) (hm24 : m ≤ 24) (hn : p + m ≤ 8 * bs.length) :
    enterF call lf [.ptr (some (R, 0)), .int .i64 n] (M p) (Take_c nb) = some (.tuple [.int .i64 (takeB bs p m : Int), .bool true], M ((p + m : Nat) : Int)) := by
  refine enter_eq ?_
  have hm' : mmAll true (.int .i64 0) [.int .i64 (min n 24)] = some (.int .i64 (m : Int)) := by rw [← hm]; exact mm_max
  simp (disch := omega) [step_nilchk, nilchk_ptr, h.f0, h.f1, h.len, anyIn_same, mm_min, hm', wrap_i, dlt_f]
  refine wp_loop (fun k s st => st = M p ∧ ∃ i : Nat, i + k = m ∧ s .h = .ptr (some (R, 0)) ∧ s (.o .h) = .int .i64 (m : Int) ∧ s (.i (.o (.o (.i .h)))) = .int .i64 (m : Int) ∧ s (.o (.i (.o (.i .h)))) = .int .i64 (i : Int) ∧
    s (.i (.i .h)) = .int .i64 (takeB bs p i : Int)) m ?_ (by omega) ?_
  · refine ⟨rfl, 0, by omega, ?_, ?_, ?_, ?_, ?_⟩ <;> simp [takeB]
  · rintro k s st ⟨rfl, i, hi, s1, s2, s3, s4, s5⟩
    cases k with
    | zero =>
      obtain rfl : i = m := by omega
      simp (disch := omega) [s1, s2, s3, s4, s5, step_nilchk, nilchk_ptr, h.f1, h.put, wrap_i]
    | succ k =>
      have hbit : call nb [.ptr (some (R, 0)), .int .i64 ((p : Int) + (i : Int))] (M p) = some (.int .i64 (bitN bs (p + i) : Int), M p) := by
        have := hb M R c sv bs (p + i) p h (by omega) hl
        rw [show ((p + i : Nat) : Int) = (p : Int) + (i : Int) from by omega] at this
        exact this
      have hb2 := bitN_lt bs (p + i)
      have ht := takeB_lt bs p i
      have ht2 := takeB_small bs p (i + 1) (by omega)
      have ht3 := takeB_small bs p i (by omega)
      have hnext : takeB bs p (i + 1) = takeB bs p i + bitN bs (p + i) * 2 ^ i := rfl
      have eshl : binV .shl (.val .int) (.int .i64 (bitN bs (p + i) : Int)) (.int .i64 (i : Int)) = some (.int .i64 ((bitN bs (p + i) * 2 ^ i : Nat) : Int)) := by
        have e : binV .shl (.val .int) (.int .i64 (bitN bs (p + i) : Int)) (.int .i64 (i : Int)) = _ := bin_shl (n := i)
        rw [e, show Nat.ble i (bitsOf .i64) = true from ble_t (by show i ≤ 64; omega), sel_true, ← Int.natCast_mul]
        generalize bitN bs (p + i) * 2 ^ i = w at hnext
        rw [wrap_i (by omega) (by omega)]
      have eor : binV .or (.val .int) (.int .i64 (takeB bs p i : Int)) (.int .i64 ((bitN bs (p + i) * 2 ^ i : Nat) : Int)) = some (.int .i64 (takeB bs p (i + 1) : Int)) := by
        rw [hnext, ← or_bit ht]
        refine Pk.bin_or (by omega) ?_
        generalize bitN bs (p + i) * 2 ^ i = w at hnext
        omega
      generalize hsh : ((bitN bs (p + i) * 2 ^ i : Nat) : Int) = w at eshl eor
      have hlt : i < m := by omega
      simp (disch := omega) [s1, s2, s3, s4, s5, step_nilchk, nilchk_ptr, h.f1, wrap_i, dlt_t, hlt, hbit, eshl, eor]
      exact ⟨k, by omega, i + 1, by omega, by simp, rfl⟩
def TakeF (call : CallT) (g : Nat) : Prop := ∀ (M : Int → St) (R c : Nat) (sv : V) (bs : List Nat) (p : Nat) (n : Int), Rd M R c sv bs → p ≤ 8 * bs.length → bs.length ≤ 140737488351232 →
  (8 * (bs.length : Int) - p < mmI n → call g [.ptr (some (R, 0)), .int .i64 n] (M p) = some (.tuple [.int .i64 0, .bool false], M p)) ∧
  ∀ m : Nat, mmI n = (m : Int) → m ≤ 24 → p + m ≤ 8 * bs.length → call g [.ptr (some (R, 0)), .int .i64 n] (M p) = some (.tuple [.int .i64 (takeB bs p m : Int), .bool true], M ((p + m : Nat) : Int))
theorem TakeF.code {base : CallT} {g nb : Nat} (hb : BitF base nb) : TakeF (withF base g 26 (Take_c nb)) g := fun M R c sv bs p n h hp hl =>
  ⟨fun hn => by rw [withF_same]; exact Take_no h hp hl hn, fun m hm hm24 hn => by rw [withF_same]; exact Take_yes (Nat.le_refl _) hb h hp hl hm hm24 hn⟩
theorem TakeF.withF {call : CallT} {n g lf : Nat} {fn : AFunc} (h : TakeF call n) (hne : n ≠ g) : TakeF (Vabs.withF call g lf fn) n := fun M R c sv bs p m hr hp hl =>
  ⟨fun hn => by rw [withF_other hne]; exact (h M R c sv bs p m hr hp hl).1 hn, fun k a b d => by rw [withF_other hne]; exact (h M R c sv bs p m hr hp hl).2 k a b d⟩
theorem TakeF.other {call : CallT} {n g : Nat} {l : List V → St → Option (V × St)} (h : TakeF call n) (hne : n ≠ g) : TakeF (withL call g l) n := fun M R c sv bs p m hr hp hl =>
  ⟨fun hn => by rw [withL_other hne]; exact (h M R c sv bs p m hr hp hl).1 hn, fun k a b d => by rw [withL_other hne]; exact (h M R c sv bs p m hr hp hl).2 k a b d⟩
def UsedF (call : CallT) (g : Nat) : Prop := ∀ (M : Int → St) (R c : Nat) (sv : V) (bs : List Nat) (p : Nat), Rd M R c sv bs → p ≤ 8 * bs.length → bs.length ≤ 140737488351232 → call g [.ptr (some (R, 0))] (M p) = some (.int .i64 (((p + 7) / 8 : Nat) : Int), M p)
def AlignF (call : CallT) (g : Nat) : Prop := ∀ (M : Int → St) (R c : Nat) (sv : V) (bs : List Nat) (p : Nat), Rd M R c sv bs → p ≤ 8 * bs.length → bs.length ≤ 140737488351232 → call g [.ptr (some (R, 0))] (M p) = some (.tuple [], M (((p + 7) / 8 * 8 : Nat) : Int))
theorem UsedF.code {base : CallT} {g lf : Nat} : UsedF (withF base g lf Used_c) g := fun M R c sv bs p h hp hl => by rw [withF_same]; exact Used_run h hp hl
theorem UsedF.withF {call : CallT} {n g lf : Nat} {fn : AFunc} (h : UsedF call n) (hne : n ≠ g) : UsedF (Vabs.withF call g lf fn) n := fun M R c sv bs p hr hp hl => by rw [withF_other hne]; exact h M R c sv bs p hr hp hl
theorem UsedF.other {call : CallT} {n g : Nat} {l : List V → St → Option (V × St)} (h : UsedF call n) (hne : n ≠ g) : UsedF (withL call g l) n := fun M R c sv bs p hr hp hl => by rw [withL_other hne]; exact h M R c sv bs p hr hp hl
theorem AlignF.code {base : CallT} {g lf : Nat} : AlignF (withF base g lf Align_c) g := fun M R c sv bs p h hp hl => by rw [withF_same]; exact Align_run h hp hl
theorem AlignF.withF {call : CallT} {n g lf : Nat} {fn : AFunc} (h : AlignF call n) (hne : n ≠ g) : AlignF (Vabs.withF call g lf fn) n := fun M R c sv bs p hr hp hl => by rw [withF_other hne]; exact h M R c sv bs p hr hp hl
theorem AlignF.other {call : CallT} {n g : Nat} {l : List V → St → Option (V × St)} (h : AlignF call n) (hne : n ≠ g) : AlignF (withL call g l) n := fun M R c sv bs p hr hp hl => by rw [withL_other hne]; exact h M R c sv bs p hr hp hl
end

end Go.Vabs.Fb
