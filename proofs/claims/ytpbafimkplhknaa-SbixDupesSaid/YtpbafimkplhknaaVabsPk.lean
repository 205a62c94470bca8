/-
  Numbers out of bytes: what the functions of the package of chapter 2 answer.
-/
import Derived.Test.YtpbafimkplhknaaVabsZc
namespace Go.Vabs.Pk
set_option linter.unusedVariables false
set_option linter.unusedSimpArgs false
set_option maxRecDepth 10000
def there_c : AFunc := AFunc.mk 27 (.seq (.reg [AOper.mk (some (.i (.i .h))) (.mv (.c (.bool false))) none]) (.seq (.reg [AOper.mk (some (.i (.o (.o .h)))) (.bin .geq (.val .int) (.t (.o .h)) (.c (.int .i64 (.ofNat 0)))) none, AOper.mk (some (.o (.i (.o .h)))) (.mv (.t (.i (.o (.o .h))))) none, AOper.mk (some (.i (.o (.i .h)))) (.len .slice (.t .h)) (some (.o (.i (.o .h)), true)), AOper.mk (some (.o (.i (.i .h)))) (.bin .leq (.val .int) (.t (.o .h)) (.t (.i (.o (.i .h))))) (some (.o (.i (.o .h)), true)), AOper.mk (some (.i (.i (.i .h)))) (.pick (.t (.o (.i (.o .h)))) (.t (.o (.i (.i .h)))) (.c (.bool false))) none, AOper.mk (some (.o (.o (.o (.o .h))))) (.mv (.t (.i (.i (.i .h))))) none, AOper.mk (some (.o (.i (.o (.o .h))))) (.bin .geq (.val .int) (.t (.i .h)) (.c (.int .i64 (.ofNat 0)))) (some (.o (.o (.o (.o .h))), true)), AOper.mk (some (.i (.i (.o (.o .h))))) (.pick (.t (.o (.o (.o (.o .h))))) (.t (.o (.i (.o (.o .h))))) (.c (.bool false))) none, AOper.mk (some (.o (.o (.i (.o .h))))) (.mv (.t (.i (.i (.o (.o .h)))))) none, AOper.mk (some (.i (.i (.i (.o .h))))) (.len .slice (.t .h)) (some (.o (.o (.i (.o .h))), true)), AOper.mk (some (.i (.o (.o (.i .h))))) (.bin .sub (.val .int) (.t (.i (.i (.i (.o .h))))) (.t (.o .h))) (some (.o (.o (.i (.o .h))), true)), AOper.mk (some (.o (.i (.o (.i .h))))) (.bin .leq (.val .int) (.t (.i .h)) (.t (.i (.o (.o (.i .h)))))) (some (.o (.o (.i (.o .h))), true)), AOper.mk (some (.i (.i (.o (.i .h))))) (.pick (.t (.o (.o (.i (.o .h))))) (.t (.o (.i (.o (.i .h))))) (.c (.bool false))) none, AOper.mk (some (.i (.i .h))) (.mv (.t (.i (.i (.o (.i .h)))))) none]) .ret)) [.tmp (.i (.i .h))]
def number_c (n_there : Nat) : AFunc := AFunc.mk 34 (.seq (.reg [AOper.mk (some (.i (.i .h))) (.mv (.c (.int .i64 (.ofNat 0)))) none, AOper.mk (some (.o (.o (.o .h)))) (.mv (.c (.bool false))) none]) (.seq (.seq (.reg [AOper.mk (some (.i (.i (.i .h)))) (.call n_there [.t .h, .t (.o .h), .t (.i .h)]) none, AOper.mk (some (.o (.o (.o (.o .h))))) (.un .not (.t (.i (.i (.i .h))))) none]) (.cond (.t (.o (.o (.o (.o .h))))) (.seq (.reg [AOper.mk (some (.i (.i .h))) (.mv (.c (.int .i64 (.ofNat 0)))) none, AOper.mk (some (.o (.o (.o .h)))) (.mv (.c (.bool false))) none]) .ret) .skip)) (.seq (.reg [AOper.mk (some (.i (.o (.o .h)))) (.mv (.c (.int .i64 (.ofNat 0)))) none]) (.seq (.seq (.reg [AOper.mk (some (.i (.o (.i (.o .h))))) (.bin .add (.val .int) (.t (.o .h)) (.t (.i .h))) none, AOper.mk (some (.o (.i (.i (.o .h))))) (.slice (.slice 1) (.t .h) (some (.t (.o .h))) (some (.t (.i (.o (.i (.o .h)))))) none) none, AOper.mk (some (.i (.i (.i (.o .h))))) (.len .slice (.t (.o (.i (.i (.o .h)))))) none, AOper.mk (some (.o (.o (.o (.i .h))))) (.mv (.c (.int .i64 (.ofNat 0)))) none]) (.block 0 (.loop (.seq (.reg [AOper.mk (some (.i (.o (.o (.i .h))))) (.bin .lss (.val .int) (.t (.o (.o (.o (.i .h))))) (.t (.i (.i (.i (.o .h)))))) none]) (.seq (.cond (.t (.i (.o (.o (.i .h))))) .skip (.exit 0)) (.seq (.block 1 (.seq (.reg [AOper.mk (some (.o (.i (.o (.i .h))))) (.idxAddr (.slice 1) (.t (.o (.i (.i (.o .h))))) (.t (.o (.o (.o (.i .h)))))) none, AOper.mk (some (.i (.i (.o (.i .h))))) (.load false 1 (.t (.o (.i (.o (.i .h)))))) none, AOper.mk (some (.i (.i (.o .h)))) (.mv (.t (.i (.i (.o (.i .h)))))) none]) (.reg [AOper.mk (some (.i (.o (.i (.i .h))))) (.bin .shl (.val .int) (.t (.i (.o (.o .h)))) (.c (.int .u64 (.ofNat 8)))) none, AOper.mk (some (.i (.i (.i (.i .h))))) (.conv (.int .i64) (.t (.i (.i (.o .h))))) none, AOper.mk (some (.o (.o (.o (.o (.o .h)))))) (.bin .or (.val .int) (.t (.i (.o (.i (.i .h))))) (.t (.i (.i (.i (.i .h)))))) none, AOper.mk (some (.i (.o (.o .h)))) (.mv (.t (.o (.o (.o (.o (.o .h))))))) none]))) (.reg [AOper.mk (some (.i (.o (.o (.o (.o .h)))))) (.bin .add (.val .int) (.t (.o (.o (.o (.i .h))))) (.c (.int .i64 (.ofNat 1)))) none, AOper.mk (some (.o (.o (.o (.i .h))))) (.mv (.t (.i (.o (.o (.o (.o .h))))))) none]))))))) (.seq (.reg [AOper.mk (some (.i (.i .h))) (.mv (.t (.i (.o (.o .h))))) none, AOper.mk (some (.o (.o (.o .h)))) (.mv (.c (.bool true))) none]) .ret))))) [.tmp (.i (.i .h)), .tmp (.o (.o (.o .h)))]
def signed_c (n_number : Nat) : AFunc := AFunc.mk 30 (.seq (.reg [AOper.mk (some (.i (.i .h))) (.mv (.c (.int .i64 (.ofNat 0)))) none, AOper.mk (some (.o (.o (.o .h)))) (.mv (.c (.bool false))) none]) (.seq (.reg [AOper.mk (some (.i (.i (.i .h)))) (.call n_number [.t .h, .t (.o .h), .t (.i .h)]) none, AOper.mk (some (.o (.o (.o (.o .h))))) (.extract (.t (.i (.i (.i .h)))) 0) none, AOper.mk (some (.i (.o (.o (.o .h))))) (.extract (.t (.i (.i (.i .h)))) 1) none, AOper.mk (some (.i (.o (.o .h)))) (.mv (.t (.o (.o (.o (.o .h)))))) none, AOper.mk (some (.o (.i (.o .h)))) (.mv (.t (.i (.o (.o (.o .h)))))) none]) (.seq (.seq (.reg [AOper.mk (some (.o (.o (.i (.o .h))))) (.bin .mul (.val .int) (.c (.int .i64 (.ofNat 8))) (.t (.i .h))) none, AOper.mk (some (.i (.o (.i (.o .h))))) (.bin .sub (.val .int) (.t (.o (.o (.i (.o .h))))) (.c (.int .i64 (.ofNat 1)))) none, AOper.mk (some (.o (.i (.i (.o .h))))) (.bin .shl (.val .int) (.c (.int .i64 (.ofNat 1))) (.t (.i (.o (.i (.o .h)))))) none, AOper.mk (some (.i (.i (.i (.o .h))))) (.bin .geq (.val .int) (.t (.i (.o (.o .h)))) (.t (.o (.i (.i (.o .h)))))) none]) (.cond (.t (.i (.i (.i (.o .h))))) (.reg [AOper.mk (some (.o (.i (.o (.i .h))))) (.bin .mul (.val .int) (.c (.int .i64 (.ofNat 8))) (.t (.i .h))) none, AOper.mk (some (.i (.i (.o (.i .h))))) (.bin .shl (.val .int) (.c (.int .i64 (.ofNat 1))) (.t (.o (.i (.o (.i .h)))))) none, AOper.mk (some (.o (.o (.i (.i .h))))) (.bin .sub (.val .int) (.t (.i (.o (.o .h)))) (.t (.i (.i (.o (.i .h)))))) none, AOper.mk (some (.i (.o (.o .h)))) (.mv (.t (.o (.o (.i (.i .h)))))) none]) .skip)) (.seq (.reg [AOper.mk (some (.i (.i .h))) (.mv (.t (.i (.o (.o .h))))) none, AOper.mk (some (.o (.o (.o .h)))) (.mv (.t (.o (.i (.o .h))))) none]) .ret)))) [.tmp (.i (.i .h)), .tmp (.o (.o (.o .h)))]
def U8_c (n_number : Nat) : AFunc := AFunc.mk 11 (.seq (.reg [AOper.mk (some (.i (.o .h))) (.mv (.c (.int .i64 (.ofNat 0)))) none, AOper.mk (some (.o (.i .h))) (.mv (.c (.bool false))) none]) (.seq (.reg [AOper.mk (some (.i (.o (.o .h)))) (.call n_number [.t .h, .t (.o .h), .c (.int .i64 (.ofNat 1))]) none, AOper.mk (some (.o (.i (.o .h)))) (.extract (.t (.i (.o (.o .h)))) 0) none, AOper.mk (some (.i (.i (.o .h)))) (.extract (.t (.i (.o (.o .h)))) 1) none, AOper.mk (some (.i (.o .h))) (.mv (.t (.o (.i (.o .h))))) none, AOper.mk (some (.o (.i .h))) (.mv (.t (.i (.i (.o .h))))) none]) .ret)) [.tmp (.i (.o .h)), .tmp (.o (.i .h))]
def U16_c (n_number : Nat) : AFunc := AFunc.mk 11 (.seq (.reg [AOper.mk (some (.i (.o .h))) (.mv (.c (.int .i64 (.ofNat 0)))) none, AOper.mk (some (.o (.i .h))) (.mv (.c (.bool false))) none]) (.seq (.reg [AOper.mk (some (.i (.o (.o .h)))) (.call n_number [.t .h, .t (.o .h), .c (.int .i64 (.ofNat 2))]) none, AOper.mk (some (.o (.i (.o .h)))) (.extract (.t (.i (.o (.o .h)))) 0) none, AOper.mk (some (.i (.i (.o .h)))) (.extract (.t (.i (.o (.o .h)))) 1) none, AOper.mk (some (.i (.o .h))) (.mv (.t (.o (.i (.o .h))))) none, AOper.mk (some (.o (.i .h))) (.mv (.t (.i (.i (.o .h))))) none]) .ret)) [.tmp (.i (.o .h)), .tmp (.o (.i .h))]
def U24_c (n_number : Nat) : AFunc := AFunc.mk 11 (.seq (.reg [AOper.mk (some (.i (.o .h))) (.mv (.c (.int .i64 (.ofNat 0)))) none, AOper.mk (some (.o (.i .h))) (.mv (.c (.bool false))) none]) (.seq (.reg [AOper.mk (some (.i (.o (.o .h)))) (.call n_number [.t .h, .t (.o .h), .c (.int .i64 (.ofNat 3))]) none, AOper.mk (some (.o (.i (.o .h)))) (.extract (.t (.i (.o (.o .h)))) 0) none, AOper.mk (some (.i (.i (.o .h)))) (.extract (.t (.i (.o (.o .h)))) 1) none, AOper.mk (some (.i (.o .h))) (.mv (.t (.o (.i (.o .h))))) none, AOper.mk (some (.o (.i .h))) (.mv (.t (.i (.i (.o .h))))) none]) .ret)) [.tmp (.i (.o .h)), .tmp (.o (.i .h))]
def U32_c (n_number : Nat) : AFunc := AFunc.mk 11 (.seq (.reg [AOper.mk (some (.i (.o .h))) (.mv (.c (.int .i64 (.ofNat 0)))) none, AOper.mk (some (.o (.i .h))) (.mv (.c (.bool false))) none]) (.seq (.reg [AOper.mk (some (.i (.o (.o .h)))) (.call n_number [.t .h, .t (.o .h), .c (.int .i64 (.ofNat 4))]) none, AOper.mk (some (.o (.i (.o .h)))) (.extract (.t (.i (.o (.o .h)))) 0) none, AOper.mk (some (.i (.i (.o .h)))) (.extract (.t (.i (.o (.o .h)))) 1) none, AOper.mk (some (.i (.o .h))) (.mv (.t (.o (.i (.o .h))))) none, AOper.mk (some (.o (.i .h))) (.mv (.t (.i (.i (.o .h))))) none]) .ret)) [.tmp (.i (.o .h)), .tmp (.o (.i .h))]
def I16_c (n_signed : Nat) : AFunc := AFunc.mk 11 (.seq (.reg [AOper.mk (some (.i (.o .h))) (.mv (.c (.int .i64 (.ofNat 0)))) none, AOper.mk (some (.o (.i .h))) (.mv (.c (.bool false))) none]) (.seq (.reg [AOper.mk (some (.i (.o (.o .h)))) (.call n_signed [.t .h, .t (.o .h), .c (.int .i64 (.ofNat 2))]) none, AOper.mk (some (.o (.i (.o .h)))) (.extract (.t (.i (.o (.o .h)))) 0) none, AOper.mk (some (.i (.i (.o .h)))) (.extract (.t (.i (.o (.o .h)))) 1) none, AOper.mk (some (.i (.o .h))) (.mv (.t (.o (.i (.o .h))))) none, AOper.mk (some (.o (.i .h))) (.mv (.t (.i (.i (.o .h))))) none]) .ret)) [.tmp (.i (.o .h)), .tmp (.o (.i .h))]
def I32_c (n_signed : Nat) : AFunc := AFunc.mk 11 (.seq (.reg [AOper.mk (some (.i (.o .h))) (.mv (.c (.int .i64 (.ofNat 0)))) none, AOper.mk (some (.o (.i .h))) (.mv (.c (.bool false))) none]) (.seq (.reg [AOper.mk (some (.i (.o (.o .h)))) (.call n_signed [.t .h, .t (.o .h), .c (.int .i64 (.ofNat 4))]) none, AOper.mk (some (.o (.i (.o .h)))) (.extract (.t (.i (.o (.o .h)))) 0) none, AOper.mk (some (.i (.i (.o .h)))) (.extract (.t (.i (.o (.o .h)))) 1) none, AOper.mk (some (.i (.o .h))) (.mv (.t (.o (.i (.o .h))))) none, AOper.mk (some (.o (.i .h))) (.mv (.t (.i (.i (.o .h))))) none]) .ret)) [.tmp (.i (.o .h)), .tmp (.o (.i .h))]
def Part_c (n_there : Nat) (n_Clone : Nat) : AFunc := AFunc.mk 20 (.seq (.reg [AOper.mk (some (.i (.i .h))) (.mv (.c (.slice none 0 0 0 true))) none, AOper.mk (some (.o (.o (.o .h)))) (.mv (.c (.bool false))) none]) (.seq (.seq (.reg [AOper.mk (some (.o (.o (.i .h)))) (.call n_there [.t .h, .t (.o .h), .t (.i .h)]) none, AOper.mk (some (.i (.o (.i .h)))) (.un .not (.t (.o (.o (.i .h))))) none]) (.cond (.t (.i (.o (.i .h)))) (.seq (.reg [AOper.mk (some (.i (.i .h))) (.mv (.c (.slice none 0 0 0 true))) none, AOper.mk (some (.o (.o (.o .h)))) (.mv (.c (.bool false))) none]) .ret) .skip)) (.seq (.reg [AOper.mk (some (.o (.i (.o (.o .h))))) (.bin .add (.val .int) (.t (.o .h)) (.t (.i .h))) none, AOper.mk (some (.i (.i (.o (.o .h))))) (.slice (.slice 1) (.t .h) (some (.t (.o .h))) (some (.t (.o (.i (.o (.o .h)))))) none) none, AOper.mk (some (.o (.o (.i (.o .h))))) (.call n_Clone [.t (.i (.i (.o (.o .h))))]) none, AOper.mk (some (.i (.i .h))) (.mv (.t (.o (.o (.i (.o .h)))))) none, AOper.mk (some (.o (.o (.o .h)))) (.mv (.c (.bool true))) none]) .ret))) [.tmp (.i (.i .h)), .tmp (.o (.o (.o .h)))]
def Clone_c : AFunc := AFunc.mk 8 (.seq (.reg [AOper.mk (some (.i .h)) (.mv (.c (.slice none 0 0 0 true))) none]) (.seq (.seq (.reg [AOper.mk (some (.i (.o .h))) (.bin .eql (.nils .slice) (.t .h) (.c (.slice none 0 0 0 true))) none]) (.cond (.t (.i (.o .h))) (.seq (.reg [AOper.mk (some (.i .h)) (.mv (.c (.slice none 0 0 0 true))) none]) .ret) .skip)) (.seq (.reg [AOper.mk (some (.o (.i .h))) (.bslice 1 0 [.int .u8 (.ofNat 0)] []) none, AOper.mk (some (.o (.o (.o .h)))) (.append 1 1 (.t (.o (.i .h))) (.t .h)) none, AOper.mk (some (.i .h)) (.mv (.t (.o (.o (.o .h))))) none]) .ret))) [.tmp (.i .h)]
attribute [local simp] wp_skip wp_ret wp_exit wp_reg wp_seq wp_cond wp_block thenQ_normal thenQ_ret thenQ_exit blockQ_normal blockQ_ret blockQ_exit wpCond_true wpCond_false wpOps_nil wpVal_some wpGuard_true wpGuard_false wpOps_guard wpOps_cons
  put_at put_no ev_c ev_slot posEq_h posEq_o posEq_i posEq_ho posEq_hi posEq_oh posEq_ih posEq_oi posEq_io sel_true sel_false
  okv_some step_mv step_call step_pick pickV_bool step_bin bin_add bin_sub bin_mul bin_eql bin_neq bin_lss bin_leq bin_gtr bin_geq bin_eqb bin_neb bin_eqs bin_nes step_un un_not un_neg step_len len_slice len_str len_const step_extract extractV nth step_convInt conv_int step_convStr step_slice step_idxAddr natOf_nat step_load step_index step_field step_fieldAddr step_build step_minmax
  step_alloc step_bslice bsliceV_some newV_some step_store step_append boolIs_b boolIs_t finQ_ret finQ_normal ressE_nil ressE_cons resE_tmp consO_some initE_nil initE_cons pos_0 pos_1 pos_2 pos_3 pos_4 pos_5 pos_6 pos_7 pos_8 plain_bool plain_int plain_str plain_ptr plain_slice plain_map plain_agg plain_func plain_nilFunc V.undef oneOf_one oneOf_two ble_self
def be (l : List Nat) : Nat := l.foldl (fun n b => n * 256 + b) 0
/-- Are k from x on there? -/
def thereB (n : Nat) (x k : Int) : Bool := decide (0 ≤ x ∧ x ≤ n ∧ 0 ≤ k ∧ k ≤ n - x)
theorem thereB_true {n : Nat} {x k : Int} : thereB n x k = true ↔ 0 ≤ x ∧ x ≤ n ∧ 0 ≤ k ∧ k ≤ n - x := decide_eq_true_iff
def num (bs : List Nat) (x : Int) (z : Nat) : Option Nat := if thereB bs.length x z = true then some (be ((bs.drop x.toNat).take z)) else none
def numV (o : Option Nat) : V := .tuple [.int .i64 ((o.getD 0 : Nat) : Int), .bool o.isSome]

theorem there_run {call : CallT} {lf : Nat} {a : Option (Nat × Nat)} {n c : Nat} {f : Bool} {x k : Int} {st : St} (hn : n < 9223372036854775808) :
    enterF call lf [.slice a 1 n c f, .int .i64 x, .int .i64 k] st there_c = some (.bool (thereB n x k), st) := by
  refine enter_eq ?_
  unfold thereB
  by_cases h1 : 0 ≤ x
  · by_cases h2 : x ≤ n
    · by_cases h3 : 0 ≤ k
      · by_cases h4 : k ≤ n - x
        · simp (disch := omega) [h1, h2, h3, h4, wrap_i]
        · simp (disch := omega) [h1, h2, h3, h4, wrap_i]
      · simp (disch := omega) [h1, h2, h3, wrap_i]
    · simp [h1, h2]
  · simp [h1]

theorem be_append (l : List Nat) (b : Nat) : be (l ++ [b]) = be l * 256 + b := by simp [be]
theorem be_lt : ∀ (k : Nat) (l : List Nat), (∀ b ∈ l, b < 256) → l.length = k → be l < 256 ^ k := by
  intro k
  induction k with
  | zero => intro l _ h; simp at h; subst h; simp [be]
  | succ k ih =>
    intro l hl h
    obtain ⟨m, b, rfl⟩ : ∃ m b, l = m ++ [b] := by
      rcases List.eq_nil_or_concat l with e | ⟨m, b, e⟩
      · subst e; simp at h
      · exact ⟨m, b, by rw [e]; simp⟩
    rw [be_append]
    have h1 := ih m (fun x hx => hl x (by simp [hx])) (by simpa using h)
    have h2 := hl b (by simp)
    rw [Nat.pow_succ]
    omega

theorem or_byte {n b : Nat} (hb : b < 256) : (n * 256) ||| b = n * 256 + b := by
  have := Nat.two_pow_add_eq_or_of_lt (i := 8) (b := b) (by simpa using hb) n
  rw [Nat.mul_comm n 256]
  exact this.symm
theorem bin_or {eq : EqKind} {a b : Nat} (ha : a < 9223372036854775808) (hb : b < 9223372036854775808) : binV .or eq (.int .i64 (a : Int)) (.int .i64 (b : Int)) = some (.int .i64 ((a ||| b : Nat) : Int)) := by
  simp only [binV, if_true, arith]
  show (match sel (Nat.blt a 9223372036854775808 && Nat.blt b 9223372036854775808) (some (Int.ofNat (Nat.lor a b))) _ with | some r => some (V.int .i64 r) | none => none) = _
  rw [blt_t ha, blt_t hb]
  rfl
/-- A byte joined on. -/
theorem bin_orb {eq : EqKind} {x y : Int} (h0 : 0 ≤ x) (h1 : x < 36028797018963968) (h2 : 0 ≤ y) (h3 : y < 256) : binV .or eq (.int .i64 (x * 256)) (.int .i64 y) = some (.int .i64 (x * 256 + y)) := by
  obtain ⟨n, rfl⟩ := Int.eq_ofNat_of_zero_le h0
  obtain ⟨b, rfl⟩ := Int.eq_ofNat_of_zero_le h2
  have := bin_or (eq := eq) (a := n * 256) (b := b) (by omega) (by omega)
  rw [or_byte (by omega)] at this
  simpa using this
theorem shl_8 {eq : EqKind} {k : IntKind} {x : Int} (h0 : 0 ≤ x) (h1 : x < 36028797018963968) : binV .shl eq (.int .i64 x) (.int k 8) = some (.int .i64 (x * 256)) := by
  have e : binV .shl eq (.int .i64 x) (.int k 8) = some (.int .i64 (wrapV .i64 (x * 256))) := bin_shl (n := 8)
  rw [e, wrap_i (by omega) (by omega)]

theorem number_run {call : CallT} {lf n_there : Nat} (hlf : 5 ≤ lf) (hthere : ∀ a n c f x k st, n < 9223372036854775808 → call n_there [.slice a 1 n c f, .int .i64 x, .int .i64 k] st = some (.bool (thereB n x k), st))
    {nil : Bool} {bs : List Nat} (hnil : nil = true → bs = []) (hb : ∀ b ∈ bs, b < 256) (hlen : bs.length < 9223372036854775808) {x : Int} {z : Nat} (hz : z ≤ 4) :
    enterF call lf [slOf nil bs, .int .i64 x, .int .i64 (z : Int)] (memOf nil bs) (number_c n_there) = some (numV (num bs x z), memOf nil bs) := by
  refine enter_eq ?_
  unfold slOf num
  cases h : thereB bs.length x z
  · simp (disch := omega) [hthere, h, numV]
  · have h' := thereB_true.1 h
    simp (disch := omega) [hthere, h, numV, wrap_i, slice_lohiI]
    refine wp_loop (fun k s st => st = memOf nil bs ∧ ∃ i, i + k = z ∧ s (.o (.i (.i (.o .h)))) = .slice (shiftA (if nil = true then none else some (0, 0)) x.toNat) 1 z (bs.length - x.toNat) false ∧
      s (.i (.i (.i (.o .h)))) = .int .i64 (z : Int) ∧ s (.o (.o (.o (.i .h)))) = .int .i64 (i : Int) ∧ s (.i (.o (.o .h))) = .int .i64 ((be ((bs.drop x.toNat).take i) : Nat) : Int)) z ?_ (by omega) ?_
    · refine ⟨rfl, 0, by omega, ?_, ?_, ?_, ?_⟩ <;> simp [be]
      all_goals omega
    · rintro k s st ⟨rfl, i, hi, s1, s2, s3, s4⟩
      cases k with
      | zero =>
        have : i = z := by omega
        subst this
        simp [s1, s2, s3, s4]
      | succ k =>
        have hiz : i < z := by omega
        have hnf : nil = false := by
          cases nil with
          | false => rfl
          | true => rw [hnil rfl] at h'; simp at h'; omega
        subst hnf
        have hlt : x.toNat + i < bs.length := by omega
        obtain ⟨b, hbx⟩ : ∃ b, bs[x.toNat + i]? = some b := ⟨_, List.getElem?_eq_getElem hlt⟩
        have hb256 : b < 256 := hb b (List.mem_of_getElem? hbx)
        have hbe : be ((bs.drop x.toNat).take i) < 4294967296 := by
          have h1 := be_lt i ((bs.drop x.toNat).take i) (fun y hy => hb y (List.mem_of_mem_drop (List.mem_of_mem_take hy))) (by simp; omega)
          have h2 : 256 ^ i ≤ 256 ^ 4 := Nat.pow_le_pow_right (by omega) (by omega)
          omega
        have hnext : be ((bs.drop x.toNat).take (i + 1)) = be ((bs.drop x.toNat).take i) * 256 + b := by
          rw [List.take_add_one, List.getElem?_drop, hbx]
          exact be_append _ _
        have hld : loadV (memOf false bs) false 1 (.ptr (some (0, x.toNat + i))) = some (.int .u8 (b : Int)) := by
          refine (load_few (os := [some (.cells false (bytesV bs))]) (i := 0) (own := false) (cs := bytesV bs) rfl).trans ?_
          rw [bytesV_at, hbx]
          rfl
        simp (disch := omega) [s1, s2, s3, s4, hiz, natOf_int, wrap_i, shiftA_some, idxAddr_slice, hld, shl_8, bin_orb]
        exact ⟨k, by omega, i + 1, by omega, by simp, by rw [hnext]; simp⟩
theorem numV_flats (o : Option Nat) : (numV o).flats = true := rfl
/-- What is known of a call of 'number'. -/
def NumF (call : CallT) (n : Nat) : Prop := ∀ st v bs x (z : Nat), bytesAt st v = some bs → bs.length < 9223372036854775808 → z ≤ 4 → call n [v, .int .i64 x, .int .i64 (z : Int)] st = some (numV (num bs x z), st)
/-- Of one that asks for so many. -/
def UF (z : Nat) (call : CallT) (n : Nat) : Prop := ∀ st v bs x, bytesAt st v = some bs → bs.length < 9223372036854775808 → call n [v, .int .i64 x] st = some (numV (num bs x z), st)
noncomputable def numS (bs : List Nat) : List V → Option V
  | [.int .i64 x, .int .i64 z] => if 0 ≤ z ∧ z ≤ 4 ∧ bs.length < 9223372036854775808 then some (numV (num bs x z.toNat)) else none
  | _ => none
noncomputable def uS (z : Nat) (bs : List Nat) : List V → Option V
  | [.int .i64 x] => if bs.length < 9223372036854775808 then some (numV (num bs x z)) else none
  | _ => none
theorem number_sound {P : Program} {call : CallT} (hmix : P.follows .mixedOrders = true) (h : Sound P call) {g nt : Nat} (hc : compF P g = some (number_c nt))
    (hthere : ∀ a n c f x k st, n < 9223372036854775808 → call nt [.slice a 1 n c f, .int .i64 x, .int .i64 k] st = some (.bool (thereB n x k), st)) : Sound P (withL call g (lawOf (bytesRd numS))) :=
  h.bytes hmix 5 hc fun nil bs rest u h1 h2 h3 => by
    unfold numS at h3
    split at h3
    · rename_i x z
      split at h3
      · rename_i hz
        cases h3
        obtain ⟨z, rfl⟩ := Int.eq_ofNat_of_zero_le hz.1
        exact ⟨_, number_run (Nat.le_refl 5) hthere h1 h2 hz.2.2 (by omega)⟩
      · cases h3
    · cases h3
theorem number_fact {call : CallT} {g : Nat} : NumF (withL call g (lawOf (bytesRd numS))) g := by
  intro st v bs x z hb hl hz
  refine bytes_call hb rfl ?_ (numV_flats _)
  show (if 0 ≤ (z : Int) ∧ (z : Int) ≤ 4 ∧ bs.length < 9223372036854775808 then some (numV (num bs x (z : Int).toNat)) else none) = _
  rw [if_pos (by omega), Int.toNat_natCast]
theorem NumF.other {call : CallT} {n g : Nat} {l : List V → St → Option (V × St)} (h : NumF call n) (hne : n ≠ g) : NumF (withL call g l) n := fun st v bs x z a b c => by rw [withL_other hne]; exact h st v bs x z a b c
theorem UF.other {z : Nat} {call : CallT} {n g : Nat} {l : List V → St → Option (V × St)} (h : UF z call n) (hne : n ≠ g) : UF z (withL call g l) n := fun st v bs x a b => by rw [withL_other hne]; exact h st v bs x a b
theorem uS_fact {z : Nat} {call : CallT} {g : Nat} : UF z (withL call g (lawOf (bytesRd (uS z)))) g := by
  intro st v bs x hb hl
  refine bytes_call hb rfl ?_ (numV_flats _)
  show (if bs.length < 9223372036854775808 then some (numV (num bs x z)) else none) = _
  rw [if_pos hl]
theorem u_sound {P : Program} {call : CallT} (hmix : P.follows .mixedOrders = true) (h : Sound P call) {g n : Nat} (hn : NumF call n) {z : Nat} {fn : AFunc} (hz : (z = 1 ∧ fn = U8_c n) ∨ (z = 2 ∧ fn = U16_c n) ∨ (z = 3 ∧ fn = U24_c n) ∨ (z = 4 ∧ fn = U32_c n)) (hc : compF P g = some fn) :
    Sound P (withL call g (lawOf (bytesRd (uS z)))) :=
  h.bytes hmix 1 hc fun nil bs rest u h1 h2 h3 => by
    unfold uS at h3
    split at h3
    · rename_i x
      split at h3
      · rename_i hl
        cases h3
        have hB := bytesAt_mem h1 h2
        refine ⟨memOf nil bs, ?_⟩
        have e1 := hn (memOf nil bs) (slOf nil bs) bs x 1 hB hl (by omega)
        have e2 := hn (memOf nil bs) (slOf nil bs) bs x 2 hB hl (by omega)
        have e3 := hn (memOf nil bs) (slOf nil bs) bs x 3 hB hl (by omega)
        have e4 := hn (memOf nil bs) (slOf nil bs) bs x 4 hB hl (by omega)
        simp at e1 e2 e3 e4
        rcases hz with ⟨rfl, rfl⟩ | ⟨rfl, rfl⟩ | ⟨rfl, rfl⟩ | ⟨rfl, rfl⟩ <;> refine enter_eq ?_ <;> simp [e1, e2, e3, e4, numV]
      · cases h3
    · cases h3

/- SIGNED -/
def sgn (z : Nat) (n : Nat) : Int := if 2 ^ (8 * z - 1) ≤ n then (n : Int) - 2 ^ (8 * z) else n
def sgnV (z : Nat) (o : Option Nat) : V := .tuple [.int .i64 (sgn z (o.getD 0)), .bool o.isSome]
def IF (z : Nat) (call : CallT) (n : Nat) : Prop := ∀ st v bs x, bytesAt st v = some bs → bs.length < 9223372036854775808 → call n [v, .int .i64 x] st = some (sgnV z (num bs x z), st)
def SgnF (call : CallT) (n : Nat) : Prop := ∀ st v bs x (z : Nat), bytesAt st v = some bs → bs.length < 9223372036854775808 → (z = 2 ∨ z = 4) → call n [v, .int .i64 x, .int .i64 (z : Int)] st = some (sgnV z (num bs x z), st)
noncomputable def sgnS (bs : List Nat) : List V → Option V
  | [.int .i64 x, .int .i64 z] => if (z = 2 ∨ z = 4) ∧ bs.length < 9223372036854775808 then some (sgnV z.toNat (num bs x z.toNat)) else none
  | _ => none
noncomputable def iS (z : Nat) (bs : List Nat) : List V → Option V
  | [.int .i64 x] => if bs.length < 9223372036854775808 then some (sgnV z (num bs x z)) else none
  | _ => none
theorem sgnV_flats (z : Nat) (o : Option Nat) : (sgnV z o).flats = true := rfl
theorem shl_one {eq : EqKind} {x : Int} (h0 : 0 ≤ x) (h1 : x ≤ 62) : binV .shl eq (.int .i64 1) (.int .i64 x) = some (.int .i64 ((2 ^ x.toNat : Nat) : Int)) := by
  obtain ⟨n, rfl⟩ := Int.eq_ofNat_of_zero_le h0
  have e : binV .shl eq (.int .i64 1) (.int .i64 (n : Int)) = _ := bin_shl (n := n) (k := .i64) (a := 1)
  rw [e, show Nat.ble n (bitsOf .i64) = true from ble_t (by show n ≤ 64; omega)]
  have h2 : 2 ^ n ≤ 2 ^ 62 := Nat.pow_le_pow_right (by omega) (by omega)
  have h3 := Nat.two_pow_pos n
  rw [sel_true, Int.one_mul, wrap_i (by omega) (by omega), Int.toNat_natCast]
theorem num_lt {bs : List Nat} {x : Int} {z : Nat} (hb : ∀ b ∈ bs, b < 256) : (num bs x z).getD 0 < 256 ^ z := by
  unfold num
  split
  · rename_i h
    have h := thereB_true.1 h
    exact be_lt z _ (fun y hy => hb y (List.mem_of_mem_drop (List.mem_of_mem_take hy))) (by simp; omega)
  · exact Nat.pos_of_ne_zero (by simp)
theorem signed_sound {P : Program} {call : CallT} (hmix : P.follows .mixedOrders = true) (h : Sound P call) {g n : Nat} (hn : NumF call n) (hc : compF P g = some (signed_c n)) : Sound P (withL call g (lawOf (bytesRd sgnS))) :=
  h.bytes hmix 1 hc fun nil bs rest u h1 h2 h3 => by
    unfold sgnS at h3
    split at h3
    · rename_i x z
      split at h3
      · rename_i hl
        cases h3
        have hB := bytesAt_mem h1 h2
        refine ⟨memOf nil bs, ?_⟩
        have e2 := hn (memOf nil bs) (slOf nil bs) bs x 2 hB hl.2 (by omega)
        have e4 := hn (memOf nil bs) (slOf nil bs) bs x 4 hB hl.2 (by omega)
        have b2 : (num bs x 2).getD 0 < 256 ^ 2 := num_lt h2
        have b4 : (num bs x 4).getD 0 < 256 ^ 4 := num_lt h2
        simp at e2 e4 b2 b4
        rcases hl.1 with rfl | rfl <;> refine enter_eq ?_
        · simp (disch := omega) [e2, numV, wrap_i, shl_one]
          by_cases hc : 32768 ≤ (num bs x 2).getD 0
          · have hc' : (32768 : Int) ≤ ((num bs x 2).getD 0 : Nat) := by omega
            simp (disch := omega) [hc', hc, wrap_i, shl_one, sgnV, sgn]
          · have hc' : ¬ (32768 : Int) ≤ ((num bs x 2).getD 0 : Nat) := by omega
            simp (disch := omega) [hc', hc, wrap_i, shl_one, sgnV, sgn]
        · simp (disch := omega) [e4, numV, wrap_i, shl_one]
          by_cases hc : 2147483648 ≤ (num bs x 4).getD 0
          · have hc' : (2147483648 : Int) ≤ ((num bs x 4).getD 0 : Nat) := by omega
            simp (disch := omega) [hc', hc, wrap_i, shl_one, sgnV, sgn]
          · have hc' : ¬ (2147483648 : Int) ≤ ((num bs x 4).getD 0 : Nat) := by omega
            simp (disch := omega) [hc', hc, wrap_i, shl_one, sgnV, sgn]
      · cases h3
    · cases h3
theorem signed_fact {call : CallT} {g : Nat} : SgnF (withL call g (lawOf (bytesRd sgnS))) g := by
  intro st v bs x z hb hl hz
  refine bytes_call hb rfl ?_ (sgnV_flats _ _)
  show (if ((z : Int) = 2 ∨ (z : Int) = 4) ∧ bs.length < 9223372036854775808 then some (sgnV (z : Int).toNat (num bs x (z : Int).toNat)) else none) = _
  rw [if_pos (by omega), Int.toNat_natCast]
theorem i_sound {P : Program} {call : CallT} (hmix : P.follows .mixedOrders = true) (h : Sound P call) {g n : Nat} (hn : SgnF call n) {z : Nat} {fn : AFunc} (hz : (z = 2 ∧ fn = I16_c n) ∨ (z = 4 ∧ fn = I32_c n)) (hc : compF P g = some fn) :
    Sound P (withL call g (lawOf (bytesRd (iS z)))) :=
  h.bytes hmix 1 hc fun nil bs rest u h1 h2 h3 => by
    unfold iS at h3
    split at h3
    · rename_i x
      split at h3
      · rename_i hl
        cases h3
        have hB := bytesAt_mem h1 h2
        refine ⟨memOf nil bs, ?_⟩
        have e2 := hn (memOf nil bs) (slOf nil bs) bs x 2 hB hl (by omega)
        have e4 := hn (memOf nil bs) (slOf nil bs) bs x 4 hB hl (by omega)
        simp at e2 e4
        rcases hz with ⟨rfl, rfl⟩ | ⟨rfl, rfl⟩ <;> refine enter_eq ?_ <;> simp [e2, e4, sgnV]
      · cases h3
    · cases h3
theorem iS_fact {z : Nat} {call : CallT} {g : Nat} : IF z (withL call g (lawOf (bytesRd (iS z)))) g := by
  intro st v bs x hb hl
  refine bytes_call hb rfl ?_ (sgnV_flats _ _)
  show (if bs.length < 9223372036854775808 then some (sgnV z (num bs x z)) else none) = _
  rw [if_pos hl]
theorem IF.other {z : Nat} {call : CallT} {n g : Nat} {l : List V → St → Option (V × St)} (h : IF z call n) (hne : n ≠ g) : IF z (withL call g l) n := fun st v bs x a b => by rw [withL_other hne]; exact h st v bs x a b
theorem SgnF.other {call : CallT} {n g : Nat} {l : List V → St → Option (V × St)} (h : SgnF call n) (hne : n ≠ g) : SgnF (withL call g l) n := fun st v bs x z a b c => by rw [withL_other hne]; exact h st v bs x z a b c

/- PARTS -/
/-- A copy of bytes, in a memory where they lie. -/
noncomputable def cloneR (os : List (Option AObj)) (new : List Nat) : V × St :=
  if new = [] then (.slice (some (os.length, 0)) 1 0 0 true, few (os ++ [some (newBytes [])])) else (.slice (some (os.length + 1, 0)) 1 new.length new.length false, few (os ++ [some (newBytes []), some (newBytes new)]))
theorem join_new {os : List (Option AObj)} {o : Option AObj} {l : List (Option AObj)} : ((os ++ o :: l)[os.length]?).join = o := by simp
theorem Clone_run {call : CallT} {lf i o n c : Nat} {f own : Bool} {os : List (Option AObj)} {cs : List V} {new : List Nat} (h : (os[i]?).join = some (.cells own cs)) (hm : o + n ≤ cs.length) (hcs : (cs.drop o).take n = bytesV new) (hn : new.length = n) (hs : n ≤ 140737488354816) :
    enterF call lf [.slice (some (i, o)) 1 n c f] (few os) Clone_c = some (cloneR os new) := by
  have hi : i < os.length := by
    cases hx : os[i]? with
    | none => rw [hx] at h; cases h
    | some y => exact (List.getElem?_eq_some_iff.1 hx).1
  have h2 : ((os ++ [some (AObj.cells true [])])[i]?).join = some (.cells own cs) := by rw [List.getElem?_append_left hi]; exact h
  have hld : (few (os ++ [some (AObj.cells true [])])).loadN i o n = some (bytesV new) := by rw [loadN_few h2 hm, hcs]
  unfold cloneR
  split
  · rename_i e
    subst e
    have hn0 : n = 0 := by simpa using hn.symm
    subst hn0
    refine enter_eq ?_
    simp [bin_eqnil, few_alloc, fill, repN, lenOf, firstNo, firstN, hld, bytesV_nil, append_none, newBytes]
  · rename_i e
    have hpos : 0 < n := by
      cases new with
      | nil => exact absurd rfl e
      | cons a l => rw [← hn]; simp
    have happ := append_new (os := os ++ [some (AObj.cells true [])]) (j := os.length) (n := n) (new := bytesV new) join_new hpos (by rw [bytesV_len, hn]) hs
    refine enter_eq ?_
    simp [bin_eqnil, few_alloc, fill, repN, lenOf, firstNo, firstN, hld, happ, newBytes, hn, bytesV_nil]
theorem Clone_nil {call : CallT} {lf n c : Nat} {f : Bool} {st : St} : enterF call lf [.slice none 1 n c f] st Clone_c = some (.slice none 0 0 0 true, st) := by
  refine enter_eq ?_
  simp [bin_eqnil2]
def CloneF (call : CallT) (n_ : Nat) : Prop :=
  (∀ os i o n c f own cs new, (os[i]?).join = some (AObj.cells own cs) → o + n ≤ cs.length → (cs.drop o).take n = bytesV new → new.length = n → n ≤ 140737488354816 → call n_ [.slice (some (i, o)) 1 n c f] (few os) = some (cloneR os new)) ∧
  ∀ n c f st, call n_ [.slice none 1 n c f] st = some (.slice none 0 0 0 true, st)
def ThereF (call : CallT) (nt : Nat) : Prop := ∀ a n c f x k st, n < 9223372036854775808 → call nt [.slice a 1 n c f, .int .i64 x, .int .i64 k] st = some (.bool (thereB n x k), st)
theorem ThereF.code {base : CallT} {g lf : Nat} : ThereF (withF base g lf there_c) g := fun a l c f x k st h => by rw [withF_same]; exact there_run h
theorem ThereF.withF {call : CallT} {n g lf : Nat} {fn : AFunc} (h : ThereF call n) (hne : n ≠ g) : ThereF (withF call g lf fn) n := fun a l c f x k st e => by rw [withF_other hne]; exact h a l c f x k st e
theorem ThereF.other {call : CallT} {n g : Nat} {l : List V → St → Option (V × St)} (h : ThereF call n) (hne : n ≠ g) : ThereF (withL call g l) n := fun a l c f x k st e => by rw [withL_other hne]; exact h a l c f x k st e
theorem CloneF.code {base : CallT} {g lf : Nat} : CloneF (Vabs.withF base g lf Clone_c) g :=
  ⟨fun os i o n c f own cs new h1 h2 h3 h4 h5 => by rw [withF_same]; exact Clone_run h1 h2 h3 h4 h5, fun n c f st => by rw [withF_same]; exact Clone_nil⟩
theorem CloneF.withF {call : CallT} {n g lf : Nat} {fn : AFunc} (h : CloneF call n) (hne : n ≠ g) : CloneF (Vabs.withF call g lf fn) n :=
  ⟨fun os i o m c f own cs new h1 h2 h3 h4 h5 => by rw [withF_other hne]; exact h.1 os i o m c f own cs new h1 h2 h3 h4 h5, fun m c f st => by rw [withF_other hne]; exact h.2 m c f st⟩
theorem CloneF.other {call : CallT} {n g : Nat} {l : List V → St → Option (V × St)} (h : CloneF call n) (hne : n ≠ g) : CloneF (withL call g l) n :=
  ⟨fun os i o m c f own cs new h1 h2 h3 h4 h5 => by rw [withL_other hne]; exact h.1 os i o m c f own cs new h1 h2 h3 h4 h5, fun m c f st => by rw [withL_other hne]; exact h.2 m c f st⟩

/-- The bytes from x on, n of them. -/
def cutB (bs : List Nat) (x n : Int) : List Nat := (bs.drop x.toNat).take n.toNat
/-- What Part answers; nil: where the slice is nil. -/
noncomputable def partA (nil : Bool) (bs : List Nat) (x n : Int) (ok : Bool) : Ans :=
  if ok = true then (if nil = true then ([], fun _ => .tuple [.slice none 0 0 0 true, .bool true])
    else ([newBytes (cutB bs x n)], fun k => .tuple [.slice (some (k, 0)) 1 (cutB bs x n).length (cutB bs x n).length false, .bool true]))
  else ([], fun _ => .tuple [.slice none 0 0 0 true, .bool false])
noncomputable def partS (nil : Bool) (bs : List Nat) : List V → Option Ans
  | [.int .i64 x, .int .i64 n] => if bs.length ≤ 140737488354000 then some (partA nil bs x n (thereB bs.length x n)) else none
  | _ => none
def PartF (call : CallT) (n_ : Nat) : Prop := ∀ st v bs x n, bytesAt st v = some bs → bs.length ≤ 140737488354000 → call n_ [v, .int .i64 x, .int .i64 n] st = lawOut (some (partA (isNil v) bs x n (thereB bs.length x n))) st
def FromF (call : CallT) (n_ : Nat) : Prop := ∀ st v bs x, bytesAt st v = some bs → bs.length ≤ 140737488354000 → call n_ [v, .int .i64 x] st = lawOut (some (partA (isNil v) bs x (bs.length - x) (thereB bs.length x 0))) st
theorem cut_len {bs : List Nat} {x n : Int} (h : thereB bs.length x n = true) : (cutB bs x n).length = n.toNat := by
  have h := thereB_true.1 h
  simp [cutB]
  omega
theorem cut_few {bs : List Nat} {x n : Int} : ((bytesV bs).drop x.toNat).take n.toNat = bytesV (cutB bs x n) := by
  rw [bytesV_drop, bytesV_take]
  rfl

/-- The run of Part, or From, behind the copy. -/
theorem left_clone {bs new : List Nat} {τ : Way} {n : Nat} : Left τ n (memOf false bs) (cloneR [some (.cells false (bytesV bs))] new).2 (.tuple [(cloneR [some (.cells false (bytesV bs))] new).1, .bool true]) [newBytes new] [if new = [] then 1 else 2]
    (.tuple [.slice (some (n, 0)) 1 new.length new.length false, .bool true]) := by
  unfold cloneR
  by_cases e : new = []
  · subst e
    simp only [if_true]
    exact Left.bytesOk (s0 := memOf false bs) (c := 0) (f := true) (b := true) (bs := []) (Nat.le_refl 1) (few_heap _ 1)
  · rw [if_neg e, if_neg e]
    exact Left.bytesOk (s0 := memOf false bs) (Nat.le_succ 1) (few_heap _ 2)

theorem Part_sound {P : Program} {call : CallT} (hmix : P.follows .mixedOrders = true) (h : Sound P call) {g nt nc : Nat} (ht : ThereF call nt) (hcl : CloneF call nc) (hc : compF P g = some (Part_c nt nc)) :
    Sound P (withL call g (lawOf (bytesRdA partS))) :=
  h.bytesA hmix 1 hc fun nil bs rest os f h1 h2 h3 => by
    unfold partS at h3
    split at h3
    · rename_i x n
      split at h3
      · rename_i hl
        simp only [Option.some.injEq] at h3
        cases hth : thereB bs.length x n with
        | false =>
          rw [hth] at h3
          cases h3
          refine ⟨_, memOf nil bs, [], ?_, fun τ m => Left.flat rfl⟩
          refine enter_eq ?_
          unfold slOf
          simp (disch := omega) [ht _ _ _ _ _ _ _ (show bs.length < 9223372036854775808 by omega), hth]
        | true =>
          have hh := thereB_true.1 hth
          rw [hth] at h3
          cases nil with
          | true =>
            cases h3
            have hbs := h1 rfl
            refine ⟨_, memOf true bs, [], ?_, fun τ m => Left.flat rfl⟩
            refine enter_eq ?_
            unfold slOf
            simp (disch := omega) [ht _ _ _ _ _ _ _ (show bs.length < 9223372036854775808 by omega), hth, wrap_i, slice_lohiI, shiftA_none, hcl.2]
          | false =>
            cases h3
            have hlen := cut_len hth
            have e := hcl.1 [some (.cells false (bytesV bs))] 0 x.toNat n.toNat (bs.length - x.toNat) false false (bytesV bs) (cutB bs x n) rfl (by rw [bytesV_len]; omega) cut_few hlen (by omega)
            refine ⟨_, _, _, ?_, fun τ m => left_clone⟩
            refine enter_eq ?_
            unfold slOf
            have e' : call nc [.slice (some (0, x.toNat)) 1 n.toNat (bs.length - x.toNat) false] (memOf false bs) = some ((cloneR [some (.cells false (bytesV bs))] (cutB bs x n)).1, (cloneR [some (.cells false (bytesV bs))] (cutB bs x n)).2) := e
            have hsub : (x + n).toNat - x.toNat = n.toNat := by omega
            have hpl : (cloneR [some (.cells false (bytesV bs))] (cutB bs x n)).1.plain = true := by unfold cloneR; split <;> rfl
            simp (disch := omega) [ht _ _ _ _ _ _ _ (show bs.length < 9223372036854775808 by omega), hth, wrap_i, slice_lohiI, shiftA_some, hsub, e', hpl]
      · cases h3
    · cases h3
theorem Part_fact {call : CallT} {g : Nat} : PartF (withL call g (lawOf (bytesRdA partS))) g := by
  intro st v bs x n hb hl
  rw [bytesA_call hb rfl]
  show lawOut (if bs.length ≤ 140737488354000 then some (partA (isNil v) bs x n (thereB bs.length x n)) else none) st = _
  rw [if_pos hl]
theorem PartF.other {call : CallT} {n g : Nat} {l : List V → St → Option (V × St)} (h : PartF call n) (hne : n ≠ g) : PartF (withL call g l) n := fun st v bs x m a b => by rw [withL_other hne]; exact h st v bs x m a b
theorem FromF.other {call : CallT} {n g : Nat} {l : List V → St → Option (V × St)} (h : FromF call n) (hne : n ≠ g) : FromF (withL call g l) n := fun st v bs x a b => by rw [withL_other hne]; exact h st v bs x a b

end Go.Vabs.Pk
