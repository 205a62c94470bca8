/-
  An inflater of stored blocks.
-/
import Derived.Test.YtkcjhakjelidgaaVabsSh
import Derived.Test.YtkcjhakjelidgaaVabsWe
namespace Go.Vabs.Sj
set_option linter.unusedVariables false
set_option linter.unusedSimpArgs false
set_option maxRecDepth 10000
attribute [local simp] wp_skip wp_ret wp_exit wp_reg wp_seq wp_cond wp_block thenQ_normal thenQ_ret thenQ_exit blockQ_normal blockQ_ret blockQ_exit wpCond_true wpCond_false wpOps_nil wpVal_some wpGuard_true wpGuard_false wpOps_guard wpOps_cons
  put_at put_no ev_c ev_slot posEq_h posEq_o posEq_i posEq_ho posEq_hi posEq_oh posEq_ih posEq_oi posEq_io sel_true sel_false
  okv_some step_mv step_call step_pick pickV_bool step_bin bin_add bin_sub bin_mul bin_eql bin_neq bin_lss bin_leq bin_gtr bin_geq bin_eqb bin_neb bin_eqs bin_nes step_un un_not un_neg step_len len_slice len_str len_const step_extract extractV nth step_convInt conv_int step_convStr step_slice step_idxAddr natOf_nat step_load step_index step_field step_fieldAddr step_build step_minmax
  step_alloc step_bslice bsliceV_some newV_some step_store step_append boolIs_b boolIs_t finQ_ret finQ_normal ressE_nil ressE_cons resE_tmp consO_some initE_nil initE_cons pos_0 pos_1 pos_2 pos_3 pos_4 pos_5 pos_6 pos_7 pos_8 plain_bool plain_int plain_str plain_ptr plain_slice plain_map plain_agg plain_func plain_nilFunc V.undef oneOf_one oneOf_two ble_self
open Go.Vabs.Pk Go.Vabs.Ph Go.Vabs.Fb Go.Vabs.Sa Go.Vabs.Sb Go.Vabs.Sc Go.Vabs.Sg Go.Vabs.Sh Go.Vabs.Si
attribute [local simp] step_nilchk nilchk_ptr step_box cells_int cells_bool cells_str cells_slice cells_ptr cells_agg fieldAddrV natOf_zero fill repN splice over newV
  wp_dreg wpDs_nil wpDs_cons wantedE_none wantedE_some wpDGuard_true wpDGuard_lim wpDGuard_false wpDLim_true wpDVal_free wpDVal_lim back_limited next_limited limF_dir limF_false foot_load foot_convStr okAll_nil okAll_cons pastsOf nthP ahead few_next load_limited okPair_dd okPair_dc okPair_cd okPair_cc anyIn_nil anyIn_same anyIn_cons meets_nil meets_nil' blt_dec
/- BITS OF WHOLE BYTES -/
theorem take_add (bs : List Nat) (p n : Nat) : ∀ m, takeB bs p (n + m) = takeB bs p n + takeB bs (p + n) m * 2 ^ n
  | 0 => by simp [takeB]
  | m + 1 => by
    show takeB bs p (n + m) + bitN bs (p + (n + m)) * 2 ^ (n + m) = takeB bs p n + (takeB bs (p + n) m + bitN bs (p + n + m) * 2 ^ m) * 2 ^ n
    rw [take_add bs p n m, Nat.add_mul, Nat.pow_add, Nat.add_assoc p n m, Nat.mul_assoc, Nat.mul_comm (2 ^ m) (2 ^ n), Nat.add_assoc]
theorem take_8 {bs : List Nat} (hb : ∀ q, byteN bs q < 256) (q : Nat) : takeB bs (8 * q) 8 = byteN bs q := by
  have h := hb q
  simp only [takeB, bitN, Nat.add_zero, show 8 * q / 8 = q from by omega, show (8 * q + 1) / 8 = q from by omega, show (8 * q + 2) / 8 = q from by omega, show (8 * q + 3) / 8 = q from by omega, show (8 * q + 4) / 8 = q from by omega, show (8 * q + 5) / 8 = q from by omega, show (8 * q + 6) / 8 = q from by omega, show (8 * q + 7) / 8 = q from by omega,
    show 8 * q % 8 = 0 from by omega, show (8 * q + 1) % 8 = 1 from by omega, show (8 * q + 2) % 8 = 2 from by omega, show (8 * q + 3) % 8 = 3 from by omega, show (8 * q + 4) % 8 = 4 from by omega, show (8 * q + 5) % 8 = 5 from by omega, show (8 * q + 6) % 8 = 6 from by omega, show (8 * q + 7) % 8 = 7 from by omega]
  omega
theorem take_16 {bs : List Nat} (hb : ∀ q, byteN bs q < 256) (q : Nat) : takeB bs (8 * q) 16 = byteN bs q + byteN bs (q + 1) * 256 := by
  have := take_add bs (8 * q) 8 8
  rw [take_8 hb, show 8 * q + 8 = 8 * (q + 1) from by omega, take_8 hb] at this
  exact this
theorem take_1 {bs : List Nat} (q : Nat) : takeB bs (8 * q) 1 = byteN bs q % 2 := by
  simp only [takeB, bitN, Nat.add_zero, show 8 * q / 8 = q from by omega, show 8 * q % 8 = 0 from by omega]
  omega
theorem take_2 {bs : List Nat} (q : Nat) : takeB bs (8 * q + 1) 2 = byteN bs q / 2 % 4 := by
  simp only [takeB, bitN, Nat.add_zero, show (8 * q + 1) / 8 = q from by omega, show (8 * q + 1) % 8 = 1 from by omega, show (8 * q + 1 + 1) / 8 = q from by omega, show (8 * q + 1 + 1) % 8 = 2 from by omega]
  omega
theorem xor_16 {n : Nat} (h : n < 65536) : n ^^^ (65535 - n) = 65535 := by
  apply Nat.eq_of_testBit_eq
  intro i
  rw [Nat.testBit_xor, show 65535 - n = 2 ^ 16 - (n + 1) from by omega, Nat.testBit_two_pow_sub_succ (show n < 2 ^ 16 from h), show (65535 : Nat) = 2 ^ 16 - 1 from rfl, Nat.testBit_two_pow_sub_one]
  by_cases hi : i < 16
  · simp [hi]
  · have : n.testBit i = false := Nat.testBit_lt_two_pow (Nat.lt_of_lt_of_le (show n < 2 ^ 16 from h) (Nat.pow_le_pow_right (by omega) (by omega)))
    simp [hi, this]
theorem bin_xorN {eq : EqKind} {a b : Nat} (ha : a < 9223372036854775808) (hb : b < 9223372036854775808) : binV .xor eq (.int .i64 (a : Int)) (.int .i64 (b : Int)) = some (.int .i64 ((a ^^^ b : Nat) : Int)) := by
  simp only [binV, if_true, arith]
  show (match sel (Nat.blt a 9223372036854775808 && Nat.blt b 9223372036854775808) (some (Int.ofNat (Nat.xor a b))) _ with | some r => some (V.int .i64 r) | none => none) = _
  rw [blt_t ha, blt_t hb]
  rfl
theorem xor_65535 {eq : EqKind} {n m : Nat} (h : n + m = 65535) : binV .xor eq (.int .i64 (n : Int)) (.int .i64 (m : Int)) = some (.int .i64 65535) := by
  rw [bin_xorN (by omega) (by omega), show m = 65535 - n from by omega, xor_16 (by omega)]
  rfl
/- AN INFLATER IN MEMORY -/
structure IA (os os' : List (Option AObj)) (c R X : Nat) (sv ov : V) (bs : List Nat) (p : Nat) (d : List Nat) (lim : Nat) : Prop where
  hRX : R < X
  hN : os.length ≤ R
  old : ∀ i, i < os.length → (os'[i]?).join = (os[i]?).join
  len : os.length ≤ os'.length
  hcR : c ≠ R
  hcX : c < X
  svl : ∀ st, lenV st .slice sv = some (.int .i64 (bs.length : Int))
  svi : ∀ q, q < bs.length → idxAddrV (.slice 1) sv (some q) = some (.ptr (some (c, q)))
  svb : ∀ q, q < bs.length → ∃ own cs, (os'[c]?).join = some (.cells own cs) ∧ cs[q]? = some (.int .u8 (byteN bs q : Int))
  hb : ∀ q, byteN bs q < 256
  atR : (os'[R]?).join = some (.cells true [sv, .int .i64 (p : Int)])
  atX : (os'[X]?).join = some (.cells true [.ptr (some (R, 0)), ov, .int .i64 (lim : Int)])
  out : OutAt os' (X + 1) ov d
noncomputable def memB (os' : List (Option AObj)) (R : Nat) (sv : V) (p : Int) : St := few (os'.set R (some (.cells true [sv, .int .i64 p])))
section
variable {os os' : List (Option AObj)} {c R X : Nat} {sv ov : V} {bs : List Nat} {p : Nat} {d : List Nat} {lim : Nat}
theorem IA.rd (h : IA os os' c R X sv ov bs p d lim) : Fb.Rd (memB os' R sv) R c sv bs := by
  have hR := join_lt h.atR
  have hat : ∀ p, ((os'.set R (some (AObj.cells true [sv, .int .i64 p])))[R]?).join = some (.cells true [sv, .int .i64 p]) := fun p => join_set_same hR
  refine ⟨fun p => (load_few (hat p)).trans rfl, fun p => (load_few (hat p)).trans rfl, fun p q => ?_, h.svl, h.svi, fun p q hq => ?_, h.hb⟩
  · unfold memB
    rw [store_few (hat p) (by simp)]
    simp
  · obtain ⟨own, cs, h1, h2⟩ := h.svb q hq
    exact (load_few (own := own) (cs := cs) (by rw [join_set (Ne.symm h.hcR)]; exact h1)).trans h2
theorem IA.mem (h : IA os os' c R X sv ov bs p d lim) : memB os' R sv (p : Int) = few os' := by
  unfold memB
  have hR := join_lt h.atR
  have e : os'[R]? = some (some (.cells true [sv, .int .i64 (p : Int)])) := by
    have := h.atR
    rw [List.getElem?_eq_getElem hR] at this ⊢
    exact congrArg some this
  congr 1
  apply List.ext_getElem?
  intro i
  by_cases hi : R = i
  · subst hi
    rw [List.getElem?_set_self hR, e]
  · rw [List.getElem?_set_ne hi]
theorem IA.move (h : IA os os' c R X sv ov bs p d lim) (p' : Nat) : IA os (os'.set R (some (.cells true [sv, .int .i64 (p' : Int)]))) c R X sv ov bs p' d lim := by
  have hR := join_lt h.atR
  have hRX := h.hRX
  have hN := h.hN
  refine ⟨h.hRX, h.hN, fun i hi => ?_, by rw [List.length_set]; exact h.len, h.hcR, h.hcX, h.svl, h.svi, fun q hq => ?_, h.hb, join_set_same hR, ?_, ?_⟩
  · rw [join_set (by omega)]; exact h.old i hi
  · rw [join_set (Ne.symm h.hcR)]; exact h.svb q hq
  · rw [join_set (by omega)]; exact h.atX
  · rcases h.out with h1 | ⟨q, h1, h2, h3⟩
    · exact .inl h1
    · exact .inr ⟨q, h1, h2, by rw [join_set (by omega)]; exact h3⟩
theorem IA.take {call : CallT} {nT m : Nat} (hT : TakeF call nT) (h : IA os os' c R X sv ov bs p d lim) (hl : bs.length ≤ 140737488351232) (hm : m ≤ 24) (hn : p + m ≤ 8 * bs.length) :
    ∃ os2, call nT [.ptr (some (R, 0)), .int .i64 (m : Int)] (few os') = some (.tuple [.int .i64 (takeB bs p m : Int), .bool true], few os2) ∧ IA os os2 c R X sv ov bs (p + m) d lim := by
  refine ⟨_, ?_, h.move (p + m)⟩
  have := (hT (memB os' R sv) R c sv bs p (m : Int) h.rd (by omega) hl).2 m (by unfold mmI; omega) hm hn
  rw [h.mem] at this
  exact this
theorem IA.short {call : CallT} {nT m : Nat} (hT : TakeF call nT) (h : IA os os' c R X sv ov bs p d lim) (hl : bs.length ≤ 140737488351232) (hm : m ≤ 24) (hp : p ≤ 8 * bs.length) (hn : 8 * bs.length < p + m) :
    call nT [.ptr (some (R, 0)), .int .i64 (m : Int)] (few os') = some (.tuple [.int .i64 0, .bool false], few os') := by
  have := (hT (memB os' R sv) R c sv bs p (m : Int) h.rd hp hl).1 (by unfold mmI; omega)
  rw [h.mem] at this
  exact this
theorem IA.align {call : CallT} {nA : Nat} (hA : AlignF call nA) (h : IA os os' c R X sv ov bs p d lim) (hl : bs.length ≤ 140737488351232) (hp : p ≤ 8 * bs.length) :
    ∃ os2, call nA [.ptr (some (R, 0))] (few os') = some (.tuple [], few os2) ∧ IA os os2 c R X sv ov bs ((p + 7) / 8 * 8) d lim := by
  refine ⟨_, ?_, h.move ((p + 7) / 8 * 8)⟩
  have := hA (memB os' R sv) R c sv bs p h.rd hp hl
  rw [h.mem] at this
  exact this
/-- put. -/
theorem OutAt.lenOf (h : OutAt os' X ov d) : ∀ st, lenV st .slice ov = some (.int .i64 (d.length : Int)) := by
  rcases h with ⟨rfl, rfl⟩ | ⟨q, _, rfl, _⟩ <;> exact fun _ => rfl
theorem OutAt.cells (h : OutAt os' X ov d) : ov.cells = some [ov] := by
  rcases h with ⟨rfl, rfl⟩ | ⟨q, _, rfl, _⟩ <;> rfl
theorem put_big {call : CallT} {lf : Nat} (h : IA os os' c R X sv ov bs p d lim) (hd : lim ≤ d.length) (hdl : d.length < 9223372036854775808) {b : Nat} : enterF call lf [.ptr (some (X, 0)), .int .u8 (b : Int)] (few os') iput_c = some (.int .i64 4, few os') := by
  have l1 : loadV (few os') false 1 (.ptr (some (X, 1))) = some ov := (load_few h.atX).trans rfl
  have l2 : loadV (few os') false 1 (.ptr (some (X, 2))) = some (.int .i64 (lim : Int)) := (load_few h.atX).trans rfl
  have hl := OutAt.lenOf h.out
  obtain ⟨n, hn⟩ : ∃ n, n = d.length := ⟨_, rfl⟩
  rw [← hn] at hl hd
  refine enter_eq ?_
  simp (disch := omega) [l1, l2, hl, dlen_t]
theorem put_yes {call : CallT} {lf : Nat} (h : IA os os' c R X sv ov bs p d lim) (hd : d.length < lim) (hdl : d.length + 1 < 70368744177664) {b : Nat} (hb : b < 256) :
    ∃ os2 ov2, enterF call lf [.ptr (some (X, 0)), .int .u8 (b : Int)] (few os') iput_c = some (.int .i64 0, few os2) ∧ IA os os2 c R X sv ov2 bs p (d ++ [b]) lim := by
  have l1 : loadV (few os') false 1 (.ptr (some (X, 1))) = some ov := (load_few h.atX).trans rfl
  have l2 : loadV (few os') false 1 (.ptr (some (X, 2))) = some (.int .i64 (lim : Int)) := (load_few h.atX).trans rfl
  have hl := OutAt.lenOf h.out
  have hX := join_lt h.atX
  have hRX := h.hRX
  obtain ⟨A, hA⟩ : ∃ A, A = os' ++ [some (newBytes [b])] := ⟨_, rfl⟩
  have hAl : A.length = os'.length + 1 := by rw [hA]; simp
  have hAo : ∀ i, i < os'.length → (A[i]?).join = (os'[i]?).join := fun i hi => by rw [hA, join_app hi]
  have alA : (few os').alloc (.cells true [.int .u8 (b : Int)]) = some (os'.length, few A) := by
    rw [hA, few_alloc]; rfl
  have hAp : (A[os'.length]?).join = some (newBytes [b]) := by rw [hA]; simp
  have hfb : firstN (few A) 1 1 (.slice (some (os'.length, 0)) 1 1 1 true) = some (bytesV [b]) := by
    show sel (Nat.beq 1 1 && Nat.ble 1 1) ((few A).loadN _ _ (1 * 1)) none = _
    rw [loadN_few hAp (by rw [bytesV_len]; simp), List.drop_zero]
    rfl
  have hXA : (A[X]?).join = some (.cells true [.ptr (some (R, 0)), ov, .int .i64 (lim : Int)]) := by rw [hAo X hX]; exact h.atX
  have l3 : loadV (few A) false 1 (.ptr (some (X, 1))) = some ov := (load_few hXA).trans rfl
  have hoA : OutAt A (X + 1) ov d := by rw [hA]; exact h.out.app
  obtain ⟨v', os2, g1, g2, g3, g4⟩ := hoA.grow (nb := [b]) (by omega) (by simpa using hdl)
  have g1 : appendV (few A) 1 1 ov (some 1) (some (bytesV [b])) = some (v', few os2) := g1
  have hX2 : (os2[X]?).join = some (.cells true [.ptr (some (R, 0)), ov, .int .i64 (lim : Int)]) := by rw [g3 X (by omega)]; exact hXA
  have l4 : loadV (few os2) false 1 (.ptr (some (X, 1))) = some ov := (load_few hX2).trans rfl
  have hX2l := join_lt hX2
  have hst : storeV (few os2) 1 (.ptr (some (X, 1))) (some [v']) = some (V.undef, few (os2.set X (some (.cells true [.ptr (some (R, 0)), v', .int .i64 (lim : Int)])))) := by
    rw [store_few hX2 (by simp)]; rfl
  have hcl := OutAt.cells g2
  obtain ⟨n, hn⟩ : ∃ n, n = d.length := ⟨_, rfl⟩
  rw [← hn] at hl hd
  refine ⟨os2.set X (some (.cells true [.ptr (some (R, 0)), v', .int .i64 (lim : Int)])), v', ?_, ?_⟩
  · refine enter_eq ?_
    simp (disch := omega) [l1, l2, hl, dlen_f, alA, l3, lenOf, firstNo, hfb, g1, hcl, hst]
  · have hN := h.hN
    have hset : ∀ i, i ≠ X → i < X + 1 → ((os2.set X (some (AObj.cells true [.ptr (some (R, 0)), v', .int .i64 (lim : Int)])))[i]?).join = (os'[i]?).join := fun i hi hi2 => by
      rw [join_set (Ne.symm hi), g3 i hi2, hAo i (by omega)]
    refine ⟨h.hRX, h.hN, fun i hi => ?_, by rw [List.length_set]; have := h.len; omega, h.hcR, h.hcX, h.svl, h.svi, fun q hq => ?_, h.hb, ?_, join_set_same hX2l, ?_⟩
    · rw [hset i (by omega) (by omega)]; exact h.old i hi
    · have := h.hcX
      rw [hset c (by omega) (by omega)]; exact h.svb q hq
    · rw [hset R (by omega) (by omega)]; exact h.atR
    · rcases g2 with h1 | ⟨q, h1, h2, h3⟩
      · exact .inl h1
      · exact .inr ⟨q, h1, h2, by rw [join_set (by omega)]; exact h3⟩
end
def PutF (call : CallT) (g : Nat) : Prop := ∀ os os' c R X sv ov bs p d lim (b : Nat), IA os os' c R X sv ov bs p d lim → d.length + 1 < 70368744177664 → b < 256 →
  (lim ≤ d.length → call g [.ptr (some (X, 0)), .int .u8 (b : Int)] (few os') = some (.int .i64 4, few os')) ∧
  (d.length < lim → ∃ os2 ov2, call g [.ptr (some (X, 0)), .int .u8 (b : Int)] (few os') = some (.int .i64 0, few os2) ∧ IA os os2 c R X sv ov2 bs p (d ++ [b]) lim)
theorem PutF.code {base : CallT} {g lf : Nat} : PutF (Vabs.withF base g lf iput_c) g := fun os os' c R X sv ov bs p d lim b h hd hb =>
  ⟨fun hl => by rw [withF_same]; exact put_big h hl (by omega), fun hl => by rw [withF_same]; exact put_yes h hl hd hb⟩
/-- The numbers of a block's head. -/
def nA (bs : List Nat) (a : Nat) : Nat := byteN bs a + byteN bs (a + 1) * 256
theorem take_snoc {bs : List Nat} {a i : Nat} (h : a + i < bs.length) : (bs.drop a).take (i + 1) = (bs.drop a).take i ++ [byteN bs (a + i)] := by
  rw [List.take_add_one, List.getElem?_drop, List.getElem?_eq_getElem h]
  unfold byteN
  rw [List.getD_eq_getElem?_getD, List.getElem?_eq_getElem h]
  rfl
set_option maxHeartbeats 1000000 in
theorem stored_run {call : CallT} {lf nAl nT nP : Nat} (hlf : 65537 ≤ lf) (hA : AlignF call nAl) (hT : TakeF call nT) (hP : PutF call nP) {os os' : List (Option AObj)} {c R X : Nat} {sv ov : V} {bs : List Nat} {q : Nat} {d : List Nat} {lim : Nat}
    (h : IA os os' c R X sv ov bs (8 * q + 3) d lim) (hq : q < bs.length) (hl : bs.length + d.length ≤ 35184372088832) (hform : q + 5 ≤ bs.length → nA bs (q + 1) + nA bs (q + 3) = 65535) :
    ∃ w st, enterF call lf [.ptr (some (X, 0))] (few os') (istored_c nAl nT nP) = some (w, st) ∧
      (bs.length < q + 5 → w = .int .i64 3) ∧
      (q + 5 ≤ bs.length →
        (nA bs (q + 1) ≤ bs.length - (q + 5) ∧ nA bs (q + 1) ≤ lim - d.length → w = .int .i64 0 ∧ ∃ os2 ov2, st = few os2 ∧ IA os os2 c R X sv ov2 bs (8 * (q + 5 + nA bs (q + 1))) (d ++ (bs.drop (q + 5)).take (nA bs (q + 1))) lim) ∧
        (¬ (nA bs (q + 1) ≤ bs.length - (q + 5) ∧ nA bs (q + 1) ≤ lim - d.length) → w = .int .i64 (if bs.length - (q + 5) ≤ lim - d.length then 3 else 4))) := by
  obtain ⟨n, hn⟩ : ∃ n, n = nA bs (q + 1) := ⟨_, rfl⟩
  obtain ⟨m, hm⟩ : ∃ m, m = nA bs (q + 3) := ⟨_, rfl⟩
  rw [← hn, ← hm] at hform
  rw [← hn]
  have main := enter_wp (call := call) (lf := lf) (n := 64) (args := [.ptr (some (X, 0))]) (st := few os') (K := fun w st => (bs.length < q + 5 → w = .int .i64 3) ∧
      (q + 5 ≤ bs.length →
        (n ≤ bs.length - (q + 5) ∧ n ≤ lim - d.length → w = .int .i64 0 ∧ ∃ os2 ov2, st = few os2 ∧ IA os os2 c R X sv ov2 bs (8 * (q + 5 + n)) (d ++ (bs.drop (q + 5)).take n) lim) ∧
        (¬ (n ≤ bs.length - (q + 5) ∧ n ≤ lim - d.length) → w = .int .i64 (if bs.length - (q + 5) ≤ lim - d.length then 3 else 4)))) (c := (istored_c nAl nT nP).code) (rs := (istored_c nAl nT nP).results) ?_
  · obtain ⟨w, st', h1, h2⟩ := main
    exact ⟨w, st', h1, h2⟩
  · unfold istored_c
    dsimp only
    have hXp : ∀ {os'' : List (Option AObj)} {ov p d}, IA os os'' c R X sv ov bs p d lim → loadV (few os'') false 1 (.ptr (some (X, 0))) = some (.ptr (some (R, 0))) := fun h => (load_few h.atX).trans rfl
    obtain ⟨os1, a1, h1⟩ := h.align hA (by omega) (by omega)
    rw [show (8 * q + 3 + 7) / 8 * 8 = 8 * (q + 1) from by omega] at h1
    by_cases s1 : bs.length < q + 3
    · have t1 := h1.short (m := 16) hT (by omega) (by omega) (by omega) (by omega)
      have t1 : call nT [.ptr (some (R, 0)), .int .i64 16] (few os1) = some (.tuple [.int .i64 0, .bool false], few os1) := t1
      simp (disch := omega) [hXp h, hXp h1, a1, t1]
      exact fun h => absurd h (by omega)
    obtain ⟨os2, t1, h2⟩ := h1.take (m := 16) hT (by omega) (by omega) (by omega)
    rw [take_16 h.hb, show byteN bs (q + 1) + byteN bs (q + 1 + 1) * 256 = n from by rw [hn]; rfl] at t1
    rw [show 8 * (q + 1) + 16 = 8 * (q + 3) from by omega] at h2
    have t1 : call nT [.ptr (some (R, 0)), .int .i64 16] (few os1) = some (.tuple [.int .i64 (n : Int), .bool true], few os2) := t1
    by_cases s2 : bs.length < q + 5
    · have t2 := h2.short (m := 16) hT (by omega) (by omega) (by omega) (by omega)
      have t2 : call nT [.ptr (some (R, 0)), .int .i64 16] (few os2) = some (.tuple [.int .i64 0, .bool false], few os2) := t2
      simp (disch := omega) [hXp h, hXp h1, hXp h2, a1, t1, t2]
      exact fun h => absurd h (by omega)
    obtain ⟨os3, t2, h3⟩ := h2.take (m := 16) hT (by omega) (by omega) (by omega)
    rw [take_16 h.hb, show byteN bs (q + 3) + byteN bs (q + 3 + 1) * 256 = m from by rw [hm]; rfl] at t2
    rw [show 8 * (q + 3) + 16 = 8 * (q + 5) from by omega] at h3
    have t2 : call nT [.ptr (some (R, 0)), .int .i64 16] (few os2) = some (.tuple [.int .i64 (m : Int), .bool true], few os3) := t2
    have hbn : ∀ q, byteN bs q < 256 := h.hb
    have hn16 : n < 65536 := by
      have e1 := hbn (q + 1)
      have e2 := hbn (q + 1 + 1)
      rw [hn]; unfold nA; omega
    have hm16 : m < 65536 := by
      have e1 := hbn (q + 3)
      have e2 := hbn (q + 3 + 1)
      rw [hm]; unfold nA; omega
    have s3 := hform (by omega)
    have hx := xor_65535 (eq := .val .int) s3
    simp (disch := omega) [hXp h, hXp h1, hXp h2, a1, t1, t2, hx]
    refine wp_loop (fun k s st => ∃ i os4 ov4, i + k = n ∧ st = few os4 ∧ i ≤ bs.length - (q + 5) ∧ i ≤ lim - d.length ∧ IA os os4 c R X sv ov4 bs (8 * (q + 5 + i)) (d ++ (bs.drop (q + 5)).take i) lim ∧ s .h = .ptr (some (X, 0)) ∧ s (.o (.o (.i (.i (.o .h))))) = .int .i64 (n : Int) ∧ s (.i (.o (.i (.i (.o .h))))) = .int .i64 (i : Int)) n ?_ (by omega) ?_
    · refine ⟨0, os3, ov, by omega, rfl, by omega, by omega, ?_, ?_, ?_, ?_⟩
      · simpa using h3
      all_goals simp
    · rintro k s st ⟨i, os4, ov4, hi, rfl, hi1, hi2, h4, r1, r2, r3⟩
      have hdl : (d ++ (bs.drop (q + 5)).take i).length = d.length + i := by rw [List.length_append, List.length_take, List.length_drop]; omega
      cases k with
      | zero =>
        have hin : i = n := by omega
        subst hin
        simp (disch := omega) [r1, r2, r3, dltn_f]
        exact ⟨by omega, fun _ => ⟨fun _ _ => ⟨os4, rfl, ov4, h4⟩, fun h => absurd (h hi1) (by omega)⟩⟩
      | succ k =>
        by_cases e1 : bs.length ≤ q + 5 + i
        · have t3 := h4.short (m := 8) hT (by omega) (by omega) (by omega) (by omega)
          have t3 : call nT [.ptr (some (R, 0)), .int .i64 8] (few os4) = some (.tuple [.int .i64 0, .bool false], few os4) := t3
          simp (disch := omega) [r1, r2, r3, dltn_t, hXp h4, t3]
          omega
        · obtain ⟨os5, t3, h5⟩ := h4.take (m := 8) hT (by omega) (by omega) (by omega)
          rw [take_8 h.hb] at t3
          obtain ⟨b, hbe⟩ : ∃ b, b = byteN bs (q + 5 + i) := ⟨_, rfl⟩
          have hb : b < 256 := by rw [hbe]; exact hbn _
          rw [← hbe] at t3
          have t3 : call nT [.ptr (some (R, 0)), .int .i64 8] (few os4) = some (.tuple [.int .i64 (b : Int), .bool true], few os5) := t3
          have w8 : wrapV .u8 (b : Int) = (b : Int) := wrap_u8 hb
          obtain ⟨p1, p2⟩ := hP os os5 c R X sv ov4 bs _ _ lim b h5 (by omega) hb
          by_cases e2 : lim ≤ d.length + i
          · have p1 := p1 (by omega)
            simp (disch := omega) [r1, r2, r3, dltn_t, hXp h4, t3, w8, p1]
            omega
          · obtain ⟨os6, ov6, p2, h6⟩ := p2 (by omega)
            simp (disch := omega) [r1, r2, r3, dltn_t, hXp h4, t3, w8, p2, wrap_i]
            refine ⟨k, by omega, i + 1, by omega, os6, rfl, by omega, by omega, ⟨ov6, ?_⟩, by omega⟩
            rw [take_snoc (by omega), ← hbe, ← List.append_assoc, show 8 * (q + 5 + (i + 1)) = 8 * (q + 5 + i) + 8 from by omega]
            exact h6

/- A BLOCK -/
def StoredF (call : CallT) (g : Nat) : Prop := ∀ (os os' : List (Option AObj)) (c R X : Nat) (sv ov : V) (bs : List Nat) (q : Nat) (d : List Nat) (lim : Nat), IA os os' c R X sv ov bs (8 * q + 3) d lim → q < bs.length → bs.length + d.length ≤ 35184372088832 → (q + 5 ≤ bs.length → nA bs (q + 1) + nA bs (q + 3) = 65535) →
    ∃ w st, call g [.ptr (some (X, 0))] (few os') = some (w, st) ∧
      (bs.length < q + 5 → w = .int .i64 3) ∧
      (q + 5 ≤ bs.length →
        (nA bs (q + 1) ≤ bs.length - (q + 5) ∧ nA bs (q + 1) ≤ lim - d.length → w = .int .i64 0 ∧ ∃ os2 ov2, st = few os2 ∧ IA os os2 c R X sv ov2 bs (8 * (q + 5 + nA bs (q + 1))) (d ++ (bs.drop (q + 5)).take (nA bs (q + 1))) lim) ∧
        (¬ (nA bs (q + 1) ≤ bs.length - (q + 5) ∧ nA bs (q + 1) ≤ lim - d.length) → w = .int .i64 (if bs.length - (q + 5) ≤ lim - d.length then 3 else 4)))
theorem StoredF.code {base : CallT} {g nAl nT nP : Nat} (hA : AlignF base nAl) (hT : TakeF base nT) (hP : PutF base nP) : StoredF (Vabs.withF base g 65537 (istored_c nAl nT nP)) g := fun os os' c R X sv ov bs q d lim h hq hl hf => by
  rw [withF_same]; exact stored_run (Nat.le_refl _) hA hT hP h hq hl hf
/-- What a block of a stream of stored ones comes to: an error, or where it ends, and what is out. -/
inductive Blk where
  | bad (e : Nat)
  | ok (last : Bool) (q : Nat) (d : List Nat)
def blkS (bs : List Nat) (lim q : Nat) (d : List Nat) : Option Blk :=
  if bs.length ≤ q then some (.bad 3) else
  if byteN bs q / 2 % 4 ≠ 0 then none else
  if bs.length < q + 5 then some (.bad 3) else
  if nA bs (q + 1) + nA bs (q + 3) ≠ 65535 then none else
  if nA bs (q + 1) ≤ bs.length - (q + 5) ∧ nA bs (q + 1) ≤ lim - d.length then some (.ok (byteN bs q % 2 == 1) (q + 5 + nA bs (q + 1)) (d ++ (bs.drop (q + 5)).take (nA bs (q + 1))))
  else some (.bad (if bs.length - (q + 5) ≤ lim - d.length then 3 else 4))
def BlkOut (r : Blk) (w : V) (st : St) (os : List (Option AObj)) (c R X : Nat) (sv : V) (bs : List Nat) (lim : Nat) : Prop :=
  match r with
  | .bad e => (∃ b, w = .tuple [.bool b, .int .i64 (e : Int)]) ∧ e ≠ 0
  | .ok last q' d' => w = .tuple [.bool last, .int .i64 0] ∧ ∃ os2 ov2, st = few os2 ∧ IA os os2 c R X sv ov2 bs (8 * q') d' lim
theorem block_run {call : CallT} {lf nT nS nF nO nC : Nat} (hT : TakeF call nT) (hS : StoredF call nS) {os os' : List (Option AObj)} {c R X : Nat} {sv ov : V} {bs : List Nat} {q : Nat} {d : List Nat} {lim : Nat} {r : Blk}
    (h : IA os os' c R X sv ov bs (8 * q) d lim) (hq : q ≤ bs.length) (hl : bs.length + d.length ≤ 35184372088832) (hr : blkS bs lim q d = some r) :
    ∃ w st, enterF call lf [.ptr (some (X, 0))] (few os') (iblock_c nT nS nF nO nC) = some (w, st) ∧
      BlkOut r w st os c R X sv bs lim := by
  have hXp : ∀ {os'' : List (Option AObj)} {ov p d}, IA os os'' c R X sv ov bs p d lim → loadV (few os'') false 1 (.ptr (some (X, 0))) = some (.ptr (some (R, 0))) := fun h => (load_few h.atX).trans rfl
  unfold blkS at hr
  split at hr
  · rename_i h0
    cases hr
    have t1 := h.short (m := 1) hT (by omega) (by omega) (by omega) (by omega)
    have t2 := h.short (m := 2) hT (by omega) (by omega) (by omega) (by omega)
    have t1 : call nT [.ptr (some (R, 0)), .int .i64 1] (few os') = some (.tuple [.int .i64 0, .bool false], few os') := t1
    have t2 : call nT [.ptr (some (R, 0)), .int .i64 2] (few os') = some (.tuple [.int .i64 0, .bool false], few os') := t2
    refine ⟨.tuple [.bool false, .int .i64 3], few os', ?_, ⟨false, rfl⟩, by omega⟩
    refine enter_eq ?_
    simp (disch := omega) [hXp h, t1, t2]
  · rename_i h0
    obtain ⟨os1, t1, h1⟩ := h.take (m := 1) hT (by omega) (by omega) (by omega)
    obtain ⟨os2, t2, h2⟩ := h1.take (m := 2) hT (by omega) (by omega) (by omega)
    rw [take_1] at t1
    rw [take_2] at t2
    rw [show 8 * q + 1 + 2 = 8 * q + 3 from by omega] at h2
    split at hr
    · cases hr
    · rename_i hk
      have hk : byteN bs q / 2 % 4 = 0 := by omega
      rw [hk] at t2
      obtain ⟨l, hl1⟩ : ∃ l, l = byteN bs q % 2 := ⟨_, rfl⟩
      rw [← hl1] at t1 hr
      have hll : l < 2 := by omega
      have t1 : call nT [.ptr (some (R, 0)), .int .i64 1] (few os') = some (.tuple [.int .i64 (l : Int), .bool true], few os1) := t1
      have t2 : call nT [.ptr (some (R, 0)), .int .i64 2] (few os1) = some (.tuple [.int .i64 0, .bool true], few os2) := t2
      have hf : q + 5 ≤ bs.length → nA bs (q + 1) + nA bs (q + 3) = 65535 := fun h5 => by
        rw [if_neg (by omega)] at hr
        split at hr
        · cases hr
        · omega
      obtain ⟨w, st, s1, s2, s3⟩ := hS os os2 c R X sv ov bs q d lim h2 (by omega) hl hf
      have hw : ∃ e : Int, w = .int .i64 e := by
        by_cases h5 : bs.length < q + 5
        · exact ⟨3, s2 h5⟩
        · obtain ⟨g1, g2⟩ := s3 (by omega)
          by_cases hg : nA bs (q + 1) ≤ bs.length - (q + 5) ∧ nA bs (q + 1) ≤ lim - d.length
          · exact ⟨0, (g1 hg).1⟩
          · exact ⟨_, g2 hg⟩
      obtain ⟨e, he⟩ := hw
      subst he
      have hrun : enterF call lf [.ptr (some (X, 0))] (few os') (iblock_c nT nS nF nO nC) = some (.tuple [.bool (l == 1), .int .i64 e], st) := by
        refine enter_eq ?_
        have hb : decide ((l : Int) = 1) = (l == 1) := by
          by_cases h : l = 1
          · rw [h]; rfl
          · rw [decide_eq_false (by omega)]; simp [h]
        simp (disch := omega) [hXp h, hXp h1, t1, t2, s1, hb]
      refine ⟨_, _, hrun, ?_⟩
      split at hr
      · rename_i h5
        cases hr
        have := s2 h5
        injection this with _ h6
        exact ⟨⟨_, by rw [h6]; rfl⟩, by omega⟩
      · rename_i h5
        obtain ⟨g1, g2⟩ := s3 (by omega)
        split at hr
        · cases hr
        · split at hr
          · rename_i hg
            cases hr
            obtain ⟨g3, g4⟩ := g1 hg
            injection g3 with _ h6
            exact ⟨by rw [h6], g4⟩
          · rename_i hg
            cases hr
            have := g2 hg
            injection this with _ h6
            refine ⟨⟨_, by rw [h6]; split <;> rfl⟩, by split <;> omega⟩

/- INFLATE -/
def BlkF (call : CallT) (g : Nat) : Prop := ∀ (os os' : List (Option AObj)) (c R X : Nat) (sv ov : V) (bs : List Nat) (q : Nat) (d : List Nat) (lim : Nat) (r : Blk), IA os os' c R X sv ov bs (8 * q) d lim → q ≤ bs.length → bs.length + d.length ≤ 35184372088832 → blkS bs lim q d = some r →
    ∃ w st, call g [.ptr (some (X, 0))] (few os') = some (w, st) ∧
      BlkOut r w st os c R X sv bs lim
theorem BlkF.code {base : CallT} {g lf nT nS nF nO nC : Nat} (hT : TakeF base nT) (hS : StoredF base nS) : BlkF (Vabs.withF base g lf (iblock_c nT nS nF nO nC)) g := fun os os' c R X sv ov bs q d lim r h hq hl hr => by
  rw [withF_same]; exact block_run hT hS h hq hl hr
/-- What a stream of stored blocks says: an error, or what is out and how many bytes were begun. -/
def inflN (bs : List Nat) (lim : Nat) : Nat → Nat → List Nat → Option (Nat ⊕ (List Nat × Nat))
  | 0, _, _ => none
  | f + 1, q, d => match blkS bs lim q d with
    | none => none
    | some (.bad e) => some (.inl e)
    | some (.ok true q' d') => some (.inr (d', q'))
    | some (.ok false q' d') => inflN bs lim f q' d'
theorem blk_next {bs : List Nat} {lim q : Nat} {d : List Nat} {last : Bool} {q' : Nat} {d' : List Nat} (h : blkS bs lim q d = some (.ok last q' d')) : q + 5 ≤ q' ∧ q' ≤ bs.length ∧ d'.length + q + 5 = d.length + q' := by
  unfold blkS at h
  split at h
  · cases h
  · split at h
    · cases h
    · split at h
      · cases h
      · split at h
        · cases h
        · split at h
          · rename_i h1 h2 h3 h4 h5
            injection h with h
            injection h with h6 h7 h8
            subst h7 h8
            refine ⟨by omega, by omega, ?_⟩
            rw [List.length_append, List.length_take, List.length_drop]
            omega
          · cases h
theorem NewBits_run {call : CallT} {lf nc : Nat} (hcl : CloneF call nc) {os : List (Option AObj)} {v : V} {bs : List Nat} (hb : bytesAt (few os) v = some bs) (hne : bs ≠ []) (hl : bs.length ≤ 140737488351232) :
    ∃ (pre : List (Option AObj)) (c : Nat) (sv : V), enterF call lf [v] (few os) (Si.NewBits_c nc) = some (.ptr (some (pre.length, 0)), few (pre ++ [some (.cells true [sv, .int .i64 0])])) ∧ os.length ≤ pre.length ∧ (∀ i, i < os.length → (pre[i]?).join = (os[i]?).join) ∧ c < pre.length ∧
      (∀ st, lenV st .slice sv = some (.int .i64 (bs.length : Int))) ∧ (∀ q, q < bs.length → idxAddrV (.slice 1) sv (some q) = some (.ptr (some (c, q)))) ∧ (∀ q, q < bs.length → ∃ own cs, (pre[c]?).join = some (.cells own cs) ∧ cs[q]? = some (.int .u8 (byteN bs q : Int))) := by
  obtain ⟨i, o, c, f, own, cs, rfl, h1, h2, h3, h4⟩ := bytesAt_place hb hne
  have e := hcl.1 os i o bs.length c f own cs bs (by rw [← few_get]; exact h2) h3 h4 rfl (by omega)
  unfold cloneR at e
  rw [if_neg hne] at e
  refine ⟨os ++ [some (newBytes []), some (newBytes bs)], os.length + 1, .slice (some (os.length + 1, 0)) 1 bs.length bs.length false, ?_, by simp, fun i hi => by rw [join_app hi], by simp, fun _ => rfl, fun q hq => ?_, fun q hq => ⟨true, bytesV bs, ?_, ?_⟩⟩
  · have al : (few (os ++ [some (newBytes []), some (newBytes bs)])).alloc (.cells true [.slice (some (os.length + 1, 0)) 1 bs.length bs.length false, .int .i64 0]) = some (os.length + 2, few (os ++ [some (newBytes []), some (newBytes bs), some (.cells true [.slice (some (os.length + 1, 0)) 1 bs.length bs.length false, .int .i64 0])])) := by
      rw [few_alloc]; simp
    refine enter_eq ?_
    simp [e, al]
  · rw [idxAddr_slice hq]; simp
  · rw [List.getElem?_append_right (by omega)]
    simp [newBytes]
  · rw [bytesV_at, List.getElem?_eq_getElem hq]
    unfold byteN
    rw [List.getD_eq_getElem?_getD, List.getElem?_eq_getElem hq]
    rfl
def NewBF (call : CallT) (g : Nat) : Prop := ∀ (os : List (Option AObj)) (v : V) (bs : List Nat), bytesAt (few os) v = some bs → bs ≠ [] → bs.length ≤ 140737488351232 →
    ∃ (pre : List (Option AObj)) (c : Nat) (sv : V), call g [v] (few os) = some (.ptr (some (pre.length, 0)), few (pre ++ [some (.cells true [sv, .int .i64 0])])) ∧ os.length ≤ pre.length ∧ (∀ i, i < os.length → (pre[i]?).join = (os[i]?).join) ∧ c < pre.length ∧
      (∀ st, lenV st .slice sv = some (.int .i64 (bs.length : Int))) ∧ (∀ q, q < bs.length → idxAddrV (.slice 1) sv (some q) = some (.ptr (some (c, q)))) ∧ (∀ q, q < bs.length → ∃ own cs, (pre[c]?).join = some (.cells own cs) ∧ cs[q]? = some (.int .u8 (byteN bs q : Int)))
theorem NewBF.code {base : CallT} {g lf nc : Nat} (hcl : CloneF base nc) : NewBF (Vabs.withF base g lf (Si.NewBits_c nc)) g := fun os v bs h1 h2 h3 => by
  rw [withF_same]; exact NewBits_run hcl h1 h2 h3
theorem load_backL {l : St} {os : List (Option AObj)} {i o : Nat} (h : l.vis i = true) : loadV (back l (few os)) false 1 (.ptr (some (i, o))) = loadV (few os) false 1 (.ptr (some (i, o))) := by
  show (back l (few os)).load1 i o = (few os).load1 i o
  unfold St.load1
  rw [get_back h]
theorem IA.rdL {os os' : List (Option AObj)} {c R X : Nat} {sv ov : V} {bs : List Nat} {p : Nat} {d : List Nat} {lim : Nat} (h : IA os os' c R X sv ov bs p d lim) {l : St} (hv : l.vis R = true) (hw : l.wr R = true) (hc : l.vis c = true) : Fb.Rd (fun p => back l (memB os' R sv p)) R c sv bs := by
  have H := h.rd
  refine ⟨fun p => ?_, fun p => ?_, fun p q => ?_, h.svl, h.svi, fun p q hq => ?_, h.hb⟩
  · exact (load_backL hv).trans (H.f0 p)
  · exact (load_backL hv).trans (H.f1 p)
  · exact (store_back hv hw).trans (by rw [show storeV (few _) 1 _ _ = _ from H.put p q]; rfl)
  · exact (load_backL hc).trans (H.byte p q hq)
theorem limF_back {fr : Bool} {ft : Foot} {ps : List Past} {st : St} : back (limF fr ft ps st) st = limF fr ft ps st := by cases st; cases ft <;> rfl
/-- Used, in a drawn region behind a load of the inflater. -/
theorem IA.usedL {call : CallT} {nU : Nat} (hU : UsedF call nU) {os os' : List (Option AObj)} {c R X : Nat} {sv ov : V} {bs : List Nat} {p : Nat} {d : List Nat} {lim : Nat} (h : IA os os' c R X sv ov bs p d lim) (hl : bs.length ≤ 140737488351232) (hp : p ≤ 8 * bs.length) :
    call nU [.ptr (some (R, 0))] (limF true .call [⟨os'.length, os'.length, .dir [X] []⟩] (few os')) = some (.int .i64 (((p + 7) / 8 : Nat) : Int), limF true .call [⟨os'.length, os'.length, .dir [X] []⟩] (few os')) := by
  have hRX := h.hRX
  have hcX := h.hcX
  have hid : ∀ i, hidden [⟨os'.length, os'.length, .dir [X] []⟩] i = false := fun i => by
    show (Nat.ble os'.length i && Nat.blt i os'.length || false) = false
    rw [Bool.or_false]
    cases h1 : Nat.ble os'.length i with
    | false => rfl
    | true =>
      rw [Nat.ble_eq] at h1
      cases h2 : Nat.blt i os'.length with
      | false => rfl
      | true => rw [Nat.blt_eq] at h2; omega
  have hvis : ∀ i, (limF true .call [⟨os'.length, os'.length, .dir [X] []⟩] (few os')).vis i = true := fun i => by
    show (true && !hidden [⟨os'.length, os'.length, .dir [X] []⟩] i) = true
    rw [hid]; rfl
  have hwr : (limF true .call [⟨os'.length, os'.length, .dir [X] []⟩] (few os')).wr R = true := by
    show (true && (Nat.ble (few os').next R || (true && ((!Vabs.mem R [X]) && true)))) = true
    have : Vabs.mem R [X] = false := by
      cases hm : Vabs.mem R [X] with
      | false => rfl
      | true =>
        have := mem_of.1 hm
        simp at this
        omega
    rw [this]
    simp
  have := hU (fun p => back (limF true .call [⟨os'.length, os'.length, .dir [X] []⟩] (few os')) (memB os' R sv p)) R c sv bs p (h.rdL (hvis R) hwr (hvis c)) hp hl
  rw [h.mem, limF_back] at this
  exact this
set_option maxHeartbeats 1000000 in
theorem Inflate_run {call : CallT} {lf nN nB nU : Nat} (hN : NewBF call nN) (hB : BlkF call nB) (hU : UsedF call nU) {os : List (Option AObj)} {v : V} {bs : List Nat} (hb : bytesAt (few os) v = some bs) (hne : bs ≠ []) (hl : bs.length ≤ 17592186044416) (hlf : bs.length + 1 < lf) {lim : Int} {r : Nat ⊕ (List Nat × Nat)} (hr : inflN bs (max 0 lim).toNat (bs.length + 1) 0 [] = some r) :
    ∃ w os', enterF call lf [v, .int .i64 lim] (few os) (Inflate_c nN nB nU) = some (w, os') ∧
      match r with
      | .inl e => w = .tuple [.slice none 0 0 0 true, .int .i64 0, .int .i64 (e : Int)]
      | .inr (d, q) => ∃ ov os2, os' = few os2 ∧ w = .tuple [ov, .int .i64 (q : Int), .int .i64 0] ∧ OutAt os2 os.length ov d := by
  have main := enter_wp (call := call) (lf := lf) (n := 36) (args := [v, .int .i64 lim]) (st := few os) (K := fun w os' => match r with
      | .inl e => w = .tuple [.slice none 0 0 0 true, .int .i64 0, .int .i64 (e : Int)]
      | .inr (d, q) => ∃ ov os2, os' = few os2 ∧ w = .tuple [ov, .int .i64 (q : Int), .int .i64 0] ∧ OutAt os2 os.length ov d) (c := (Inflate_c nN nB nU).code) (rs := (Inflate_c nN nB nU).results) ?_
  · obtain ⟨w, st', h1, h2⟩ := main
    exact ⟨w, st', h1, h2⟩
  · obtain ⟨pre, c, sv, c1, hpl, hpo, hcl, v1, v2, v3⟩ := hN os v bs hb hne (by omega)
    obtain ⟨L, hL⟩ : ∃ L, L = (max 0 lim).toNat := ⟨_, rfl⟩
    have hLi : max 0 lim = (L : Int) := by rw [hL]; omega
    rw [← hL] at hr
    have mm : mmAll true (.int .i64 0) [.int .i64 lim] = some (.int .i64 (L : Int)) := by rw [← hLi]; exact mm_max
    obtain ⟨A, hA⟩ : ∃ A, A = pre ++ [some (.cells true [sv, .int .i64 0])] ++ [some (.cells true [.ptr (some (pre.length, 0)), .slice none 0 0 0 true, .int .i64 (L : Int)])] := ⟨_, rfl⟩
    have al : (few (pre ++ [some (.cells true [sv, .int .i64 0])])).alloc (.cells true [.ptr (some (pre.length, 0)), .slice none 0 0 0 true, .int .i64 (L : Int)]) = some (pre.length + 1, few A) := by
      rw [few_alloc, hA]; simp
    have hAl : A.length = pre.length + 2 := by rw [hA]; simp
    have hA0 : ∀ i, i < pre.length → (A[i]?).join = (pre[i]?).join := fun i hi => by rw [hA, List.append_assoc, join_app hi]
    have hbb := bytesAt_lt hb
    have h0 : IA os A c pre.length (pre.length + 1) sv (.slice none 0 0 0 true) bs (8 * 0) [] L := by
      refine ⟨by omega, hpl, fun i hi => ?_, by omega, by omega, by omega, v1, v2, fun q hq => ?_, fun q => ?_, ?_, ?_, .inl ⟨rfl, rfl⟩⟩
      · rw [hA0 i (by omega)]; exact hpo i hi
      · rw [hA0 c (by omega)]; exact v3 q hq
      · unfold byteN
        rw [List.getD_eq_getElem?_getD]
        cases hx : bs[q]? with
        | none => show 0 < 256; omega
        | some b => exact hbb b (List.mem_of_getElem? hx)
      · rw [hA, List.append_assoc]
        simp
      · rw [hA]
        simp
    unfold Inflate_c
    dsimp only
    simp (disch := omega) [c1, mm, al]
    refine wp_loop (fun k s st => ∃ os' ov q d f, st = few os' ∧ IA os os' c pre.length (pre.length + 1) sv ov bs (8 * q) d L ∧ k = bs.length - q ∧ q ≤ bs.length ∧ d.length ≤ q ∧ inflN bs L f q d = some r ∧ s (.o (.o (.o .h))) = .ptr (some (pre.length + 1, 0))) bs.length ?_ (by omega) ?_
    · refine ⟨A, _, 0, [], bs.length + 1, rfl, h0, by omega, by omega, by simp, hr, ?_⟩
      simp
    · rintro k s st ⟨os', ov, q, d, f, rfl, h1, rfl, hq, hd, hf, s1⟩
      cases f with
      | zero => cases hf
      | succ f =>
        unfold inflN at hf
        split at hf
        · cases hf
        · rename_i e hbk
          cases hf
          obtain ⟨w, st, b1, ⟨b, hw⟩, he⟩ := hB os os' c pre.length (pre.length + 1) sv ov bs q d L _ h1 hq (by omega) hbk
          subst hw
          simp (disch := omega) [s1, b1, deqn_f]
        · rename_i q' d' hbk
          cases hf
          obtain ⟨w, st, b1, hw, os2, ov2, rfl, h2⟩ := hB os os' c pre.length (pre.length + 1) sv ov bs q d L _ h1 hq (by omega) hbk
          subst hw
          obtain ⟨e1, e2, e3⟩ := blk_next hbk
          have hu := h2.usedL hU (by omega) (by omega)
          rw [show (8 * q' + 7) / 8 = q' from by omega] at hu
          have hu : call nU [.ptr (some (pre.length, 0))] (limF true .call [⟨os2.length, os2.length, .dir (idOf (.ptr (some (pre.length + 1, 1)))) []⟩] (few os2)) = some (.int .i64 (q' : Int), limF true .call [⟨os2.length, os2.length, .dir (idOf (.ptr (some (pre.length + 1, 1)))) []⟩] (few os2)) := hu
          have l0 : loadV (few os2) false 1 (.ptr (some (pre.length + 1, 0))) = some (.ptr (some (pre.length, 0))) := (load_few h2.atX).trans rfl
          have l1 : loadV (few os2) false 1 (.ptr (some (pre.length + 1, 1))) = some ov2 := (load_few h2.atX).trans rfl
          simp (disch := omega) [s1, b1, l0, l1, hu, back_limF, next_limF, foot_call, h2.out.plain]
          refine ⟨ov2, os2, rfl, rfl, ?_⟩
          rcases h2.out with g | ⟨j, g1, g2, g3⟩
          · exact .inl g
          · exact .inr ⟨j, ⟨by omega, g1.2⟩, g2, g3⟩
        · rename_i q' d' hbk
          obtain ⟨w, st, b1, hw, os2, ov2, rfl, h2⟩ := hB os os' c pre.length (pre.length + 1) sv ov bs q d L _ h1 hq (by omega) hbk
          subst hw
          obtain ⟨e1, e2, e3⟩ := blk_next hbk
          simp (disch := omega) [s1, b1]
          exact ⟨bs.length - q', by omega, os2, rfl, ov2, q', d', h2, rfl, by omega, by omega, f, hf⟩

/- THE LAWS -/
theorem Left.sl3 {τ : Way} {n : Nat} {s0 s1 : St} {j e m c : Nat} {f : Bool} {k k' : IntKind} {x x' : Int} {cs : List V} (hf : ∀ v ∈ cs, v.flat = true) (hm : m ≤ c) (hj : s0.next ≤ j) (hg : s1.heap.get j = some (.cells true cs)) :
    Left τ n s0 s1 (.tuple [.slice (some (j, 0)) e m c f, .int k x, .int k' x']) [.cells true cs] [j] (.tuple [.slice (some (n, 0)) e m m false, .int k x, .int k' x']) := by
  have base := Left.cells (τ := τ) (n := n) (s0 := s0) (s1 := s1) (e := e) (f := f) hf hm hj hg
  refine ⟨?_, base.len, base.objs, base.inj⟩
  rintro ι1 ι2 x ho ⟨cs', rfl, h1⟩
  refine ⟨cs', rfl, ?_⟩
  match cs'.toList, h1 with
  | x :: y :: z :: [], ⟨h2, h3, h4, _⟩ =>
    have h2 : R0 ι1 (.slice (some (j, 0)) e m c f) x := h2
    have := base.val ι1 ι2 x ho h2.up
    exact ⟨((R_sl rfl).1 this).up1, h3, h4, trivial⟩
noncomputable def bytesA (d : List Nat) : Ans := ([newBytes d], fun k => .slice (some (k, 0)) 1 d.length d.length false)
noncomputable def storedSpec : Nat → Sight → List V → Option Ans := fun _ l args =>
  match args with
  | [v] => match lookB l v with | some bs => if bs.length ≤ 1099511627776 then some (bytesA (storedB bs)) else none | none => none
  | _ => none
theorem storedSpec_mono : MonoN storedSpec := by
  intro n l l' args a h ha
  unfold storedSpec at ha ⊢
  split at ha
  · split at ha
    · rename_i bs hbs
      rw [lookB_mono h hbs]
      exact ha
    · cases ha
  · cases ha
theorem storedB_ne (bs : List Nat) : storedB bs ≠ [] := by
  intro e
  rcases Nat.lt_or_ge 65535 bs.length with h | h
  · rw [stored_more h] at e
    simp [blkB, blkH] at e
  · rw [stored_last h] at e
    simp [blkB, blkH] at e
theorem Stored_sound {P : Program} {call : CallT} (hmix : P.follows .mixedOrders = true) (hs : Sound P call) {g nB : Nat} (hB : BlockF call nB) (hc : compF P g = some (Stored_c nB)) : Sound P (withL call g (lawOf (sightRdN storedSpec))) := by
  refine hs.sightN hmix 1099511627777 hc storedSpec_mono fun os args new f hg hx => ?_
  unfold storedSpec at hx
  split at hx
  · rename_i v
    split at hx
    · rename_i bs hbs
      split at hx
      · rename_i hl
        have hx : bytesA (storedB bs) = (new, f) := Option.some.inj hx
        have hnew : new = (bytesA (storedB bs)).1 := by rw [hx]
        have hff : f = (bytesA (storedB bs)).2 := by rw [hx]
        subst hnew hff
        have hg' : v.good os.length = true := by simpa [goods] using hg
        obtain ⟨w, os', h1, h2, h3, h4⟩ := Stored_run (lf := 1099511627777) hB hg' hbs (by omega) (by omega)
        rcases h2 with ⟨h5, _⟩ | ⟨q, h5, rfl, h6⟩
        · exact absurd h5 (storedB_ne bs)
        · exact ⟨_, _, [q], h1, Left.cells bytesV_flat (Nat.le_refl _) (by rw [few_next]; exact h5.1) (by rw [few_heap]; exact h6)⟩
      · cases hx
    · cases hx
  · cases hx
def StoredLF (call : CallT) (g : Nat) : Prop := ∀ os v bs, v.good os.length = true → lookB (few os).look v = some bs → bs.length ≤ 1099511627776 → call g [v] (few os) = some (.slice (some (os.length, 0)) 1 (storedB bs).length (storedB bs).length false, few (os ++ [some (newBytes (storedB bs))]))
theorem storedL_fact {call : CallT} {g : Nat} : StoredLF (withL call g (lawOf (sightRdN storedSpec))) g := by
  intro os v bs hg hb h1
  rw [sightN_call (by simp [goods, hg, few_next])]
  unfold storedSpec
  dsimp only
  rw [hb]
  dsimp only
  rw [if_pos h1]
  exact lawOut_few
theorem StoredLF.other {call : CallT} {n g : Nat} {l : List V → St → Option (V × St)} (h : StoredLF call n) (hne : n ≠ g) : StoredLF (withL call g l) n := fun os v bs a b c => by rw [withL_other hne]; exact h os v bs a b c
theorem StoredLF.withF {call : CallT} {n g lf : Nat} {fn : AFunc} (h : StoredLF call n) (hne : n ≠ g) : StoredLF (Vabs.withF call g lf fn) n := fun os v bs a b c => by rw [withF_other hne]; exact h os v bs a b c
/-- Inflate's answer. -/
noncomputable def inflA : Nat ⊕ (List Nat × Nat) → Ans
  | .inl e => ([], fun _ => .tuple [.slice none 0 0 0 true, .int .i64 0, .int .i64 (e : Int)])
  | .inr (d, q) => if d = [] then ([], fun _ => .tuple [.slice none 0 0 0 true, .int .i64 (q : Int), .int .i64 0]) else ([newBytes d], fun k => .tuple [.slice (some (k, 0)) 1 d.length d.length false, .int .i64 (q : Int), .int .i64 0])
noncomputable def inflSpec : Nat → Sight → List V → Option Ans := fun _ l args =>
  match args with
  | [v, .int .i64 lim] => match lookB l v with | some bs => if bs ≠ [] ∧ bs.length ≤ 17592186044416 then (inflN bs (max 0 lim).toNat (bs.length + 1) 0 []).map inflA else none | none => none
  | _ => none
theorem Inflate_hrun {call : CallT} {nN nB nU : Nat} (hN : NewBF call nN) (hB : BlkF call nB) (hU : UsedF call nU) (os : List (Option AObj)) (args : List V) (new : List AObj) (f : Nat → V) (hg : goods os.length args = true) (hx : inflSpec os.length (few os).look args = some (new, f)) :
    ∃ s1 v0 σ, enterF call 17592186044419 args (few os) (Inflate_c nN nB nU) = some (v0, s1) ∧ Left (wayId os.length) os.length (few os) s1 v0 new σ (f os.length) := by
  unfold inflSpec at hx
  split at hx
  · rename_i v lim
    split at hx
    · rename_i bs hbs
      split at hx
      · rename_i hl
        cases hr : inflN bs (max 0 lim).toNat (bs.length + 1) 0 [] with
        | none => rw [hr] at hx; cases hx
        | some r =>
          rw [hr] at hx
          have hx : inflA r = (new, f) := Option.some.inj hx
          have hnew : new = (inflA r).1 := by rw [hx]
          have hff : f = (inflA r).2 := by rw [hx]
          subst hnew hff
          obtain ⟨w, os', h1, h2⟩ := Inflate_run (lf := 17592186044419) hN hB hU (lookB_at hbs) hl.1 hl.2 (by omega) hr
          cases r with
          | inl e =>
            have h2 : w = _ := h2
            subst h2
            exact ⟨_, _, [], h1, Left.flat rfl⟩
          | inr dq =>
            obtain ⟨d, q⟩ := dq
            obtain ⟨ov, os2, rfl, rfl, h3⟩ := h2
            unfold inflA
            dsimp only
            rcases h3 with ⟨rfl, rfl⟩ | ⟨j, h4, rfl, h5⟩
            · rw [if_pos rfl]
              exact ⟨_, _, [], h1, Left.flat rfl⟩
            · rw [if_neg h4.2]
              exact ⟨_, _, [j], h1, Left.sl3 bytesV_flat (Nat.le_refl _) (by rw [few_next]; exact h4.1) (by rw [few_heap]; exact h5)⟩
      · cases hx
    · cases hx
  · cases hx
end Go.Vabs.Sj

namespace Go.Vabs.Sk
set_option linter.unusedVariables false
set_option linter.unusedSimpArgs false
set_option maxRecDepth 10000
attribute [local simp] wp_skip wp_ret wp_exit wp_reg wp_seq wp_cond wp_block thenQ_normal thenQ_ret thenQ_exit blockQ_normal blockQ_ret blockQ_exit wpCond_true wpCond_false wpOps_nil wpVal_some wpGuard_true wpGuard_false wpOps_guard wpOps_cons
  put_at put_no ev_c ev_slot posEq_h posEq_o posEq_i posEq_ho posEq_hi posEq_oh posEq_ih posEq_oi posEq_io sel_true sel_false
  okv_some step_mv step_call step_pick pickV_bool step_bin bin_add bin_sub bin_mul bin_eql bin_neq bin_lss bin_leq bin_gtr bin_geq bin_eqb bin_neb bin_eqs bin_nes step_un un_not un_neg step_len len_slice len_str len_const step_extract extractV nth step_convInt conv_int step_convStr step_slice step_idxAddr natOf_nat step_load step_index step_field step_fieldAddr step_build step_minmax
  step_alloc step_bslice bsliceV_some newV_some step_store step_append boolIs_b boolIs_t finQ_ret finQ_normal ressE_nil ressE_cons resE_tmp consO_some initE_nil initE_cons pos_0 pos_1 pos_2 pos_3 pos_4 pos_5 pos_6 pos_7 pos_8 plain_bool plain_int plain_str plain_ptr plain_slice plain_map plain_agg plain_func plain_nilFunc V.undef oneOf_one oneOf_two ble_self
open Go.Vabs.Pk Go.Vabs.Ph Go.Vabs.Fb Go.Vabs.Sa Go.Vabs.Sb Go.Vabs.Sc Go.Vabs.Sg Go.Vabs.Sh Go.Vabs.Si Go.Vabs.Sj
attribute [local simp] step_nilchk nilchk_ptr step_box cells_int cells_bool cells_str cells_slice cells_ptr cells_agg fieldAddrV natOf_zero fill repN splice over newV
  wp_dreg wpDs_nil wpDs_cons wantedE_none wantedE_some wpDGuard_true wpDGuard_lim wpDGuard_false wpDLim_true wpDVal_free wpDVal_lim back_limited next_limited limF_dir limF_false foot_load foot_convStr okAll_nil okAll_cons pastsOf nthP ahead few_next load_limited okPair_dd okPair_dc okPair_cd okPair_cc anyIn_nil anyIn_same anyIn_cons meets_nil meets_nil' blt_dec
/- WHAT IS STORED IS INFLATED THE SAME: PLAIN -/
theorem byteN_drop (bs : List Nat) (q i : Nat) : byteN bs (q + i) = byteN (bs.drop q) i := by
  unfold byteN
  rw [List.getD_eq_getElem?_getD, List.getD_eq_getElem?_getD, List.getElem?_drop]
theorem byteN_app {a b : List Nat} {i : Nat} (h : i < a.length) : byteN (a ++ b) i = byteN a i := by
  unfold byteN
  rw [List.getD_eq_getElem?_getD, List.getD_eq_getElem?_getD, List.getElem?_append_left h]
theorem blk_len (last : Nat) (x : List Nat) : (blkB last x).length = x.length + 5 := by simp [blkB, blkH]
/-- The head of a block. -/
theorem blk_head {last : Nat} {x : List Nat} (h : x.length ≤ 65535) : byteN (blkB last x) 0 = last ∧ nA (blkB last x) 1 = x.length ∧ nA (blkB last x) 3 = 65535 - x.length ∧ (blkB last x).drop 5 = x := by
  refine ⟨rfl, ?_, ?_, rfl⟩
  · show x.length % 256 + x.length / 256 % 256 * 256 = x.length
    omega
  · show 255 - x.length % 256 + (255 - x.length / 256 % 256) * 256 = 65535 - x.length
    omega
theorem nA_drop (bs : List Nat) (q i : Nat) : nA bs (q + i) = nA (bs.drop q) i := by
  unfold nA
  rw [show q + i + 1 = q + (i + 1) from by omega, byteN_drop, byteN_drop]
theorem nA_app {a b : List Nat} {i : Nat} (h : i + 1 < a.length) : nA (a ++ b) i = nA a i := by
  unfold nA
  rw [byteN_app (by omega), byteN_app h]
theorem blk_ok {bs rest x d : List Nat} {lim q last : Nat} (h : bs.drop q = blkB last x ++ rest) (hx : x.length ≤ 65535) (hlast : last < 2) (hr : x.length ≤ lim - d.length) : blkS bs lim q d = some (.ok (last == 1) (q + 5 + x.length) (d ++ x)) := by
  obtain ⟨h0, h1, h3, h5⟩ := blk_head (last := last) hx
  have hl := blk_len last x
  have hlen : bs.length - q = x.length + 5 + rest.length := by rw [← List.length_drop, h, List.length_append, hl]
  have e0 : byteN bs q = last := by rw [show q = q + 0 from rfl, byteN_drop, h, byteN_app (by omega), h0]
  have e1 : nA bs (q + 1) = x.length := by rw [nA_drop, h, nA_app (by omega), h1]
  have e3 : nA bs (q + 3) = 65535 - x.length := by rw [nA_drop, h, nA_app (by omega), h3]
  have e5 : (bs.drop (q + 5)).take x.length = x := by
    rw [← List.drop_drop, h, List.drop_append_of_le_length (by omega), h5, List.take_append_of_le_length (Nat.le_refl _), List.take_length]
  unfold blkS
  rw [e0, e1, e3, e5, if_neg (by omega), if_neg (by omega), if_neg (by omega), if_neg (by omega), if_pos ⟨by omega, hr⟩, Nat.mod_eq_of_lt hlast]
theorem blk_big {bs rest x d : List Nat} {lim q last : Nat} (h : bs.drop q = blkB last x ++ rest) (hx : x.length ≤ 65535) (hlast : last < 2) (hr : lim - d.length < x.length) : blkS bs lim q d = some (.bad 4) := by
  obtain ⟨h0, h1, h3, h5⟩ := blk_head (last := last) hx
  have hl := blk_len last x
  have hlen : bs.length - q = x.length + 5 + rest.length := by rw [← List.length_drop, h, List.length_append, hl]
  have e0 : byteN bs q = last := by rw [show q = q + 0 from rfl, byteN_drop, h, byteN_app (by omega), h0]
  have e1 : nA bs (q + 1) = x.length := by rw [nA_drop, h, nA_app (by omega), h1]
  have e3 : nA bs (q + 3) = 65535 - x.length := by rw [nA_drop, h, nA_app (by omega), h3]
  unfold blkS
  rw [e0, e1, e3, if_neg (by omega), if_neg (by omega), if_neg (by omega), if_neg (by omega), if_neg (by omega), if_neg (by omega)]
theorem infl_ok {bs rest : List Nat} {lim : Nat} : ∀ (f q : Nat) (d cur : List Nat), cur.length < f → bs.drop q = storedB cur ++ rest → cur.length ≤ lim - d.length → inflN bs lim f q d = some (.inr (d ++ cur, q + (storedB cur).length))
  | 0, q, d, cur, hf, _, _ => by omega
  | f + 1, q, d, cur, hf, h, hr => by
    unfold inflN
    rcases Nat.lt_or_ge 65535 cur.length with hb | hs
    · have hx : (cur.take 65535).length = 65535 := by rw [List.length_take]; omega
      rw [stored_more hb, List.append_assoc] at h
      rw [blk_ok h (by omega) (by omega) (by omega), hx]
      rw [show ((0 : Nat) == 1) = false from rfl]
      dsimp only
      have h2 : bs.drop (q + 5 + 65535) = storedB (cur.drop 65535) ++ rest := by
        rw [show q + 5 + 65535 = q + (blkB 0 (cur.take 65535)).length from by rw [blk_len, hx], ← List.drop_drop, h, List.drop_left]
      rw [infl_ok f (q + 5 + 65535) (d ++ cur.take 65535) (cur.drop 65535) (by rw [List.length_drop]; omega) h2 (by rw [List.length_drop, List.length_append, hx]; omega), stored_more hb]
      rw [List.append_assoc, List.take_append_drop, List.length_append, blk_len, hx]
      congr 3
      omega
    · rw [stored_last hs] at h ⊢
      rw [blk_ok h hs (by omega) hr, blk_len]
      rw [show ((1 : Nat) == 1) = true from rfl]
      dsimp only
      congr 3
      omega
theorem infl_big {bs rest : List Nat} {lim : Nat} : ∀ (f q : Nat) (d cur : List Nat), cur.length < f → bs.drop q = storedB cur ++ rest → lim - d.length < cur.length → inflN bs lim f q d = some (.inl 4)
  | 0, q, d, cur, hf, _, _ => by omega
  | f + 1, q, d, cur, hf, h, hr => by
    unfold inflN
    rcases Nat.lt_or_ge 65535 cur.length with hb | hs
    · have hx : (cur.take 65535).length = 65535 := by rw [List.length_take]; omega
      rw [stored_more hb, List.append_assoc] at h
      by_cases hr2 : 65535 ≤ lim - d.length
      · rw [blk_ok h (by omega) (by omega) (by omega), hx]
        rw [show ((0 : Nat) == 1) = false from rfl]
        dsimp only
        have h2 : bs.drop (q + 5 + 65535) = storedB (cur.drop 65535) ++ rest := by
          rw [show q + 5 + 65535 = q + (blkB 0 (cur.take 65535)).length from by rw [blk_len, hx], ← List.drop_drop, h, List.drop_left]
        exact infl_big f (q + 5 + 65535) (d ++ cur.take 65535) (cur.drop 65535) (by rw [List.length_drop]; omega) h2 (by rw [List.length_drop, List.length_append, hx]; omega)
      · rw [blk_big h (by omega) (by omega) (by omega)]
    · rw [stored_last hs] at h
      rw [blk_big h hs (by omega) hr]
/- THE LAW'S RUN -/
def InflF (call : CallT) (g : Nat) : Prop := ∀ os v bs (lim : Int) r, v.good os.length = true → lookB (few os).look v = some bs → bs ≠ [] → bs.length ≤ 17592186044416 → inflN bs (max 0 lim).toNat (bs.length + 1) 0 [] = some r → call g [v, .int .i64 lim] (few os) = some ((inflA r).2 os.length, few (os ++ (inflA r).1.map some))
theorem InflF.other {call : CallT} {n g : Nat} {l : List V → St → Option (V × St)} (h : InflF call n) (hne : n ≠ g) : InflF (withL call g l) n := fun os v bs lim r a b c d e => by rw [withL_other hne]; exact h os v bs lim r a b c d e
theorem InflF.withF {call : CallT} {n g lf : Nat} {fn : AFunc} (h : InflF call n) (hne : n ≠ g) : InflF (Vabs.withF call g lf fn) n := fun os v bs lim r a b c d e => by rw [withF_other hne]; exact h os v bs lim r a b c d e
/-- What inflated bytes are in memory. -/
def outV (d : List Nat) (k : Nat) : V := if d = [] then .slice none 0 0 0 true else .slice (some (k, 0)) 1 d.length d.length false
noncomputable def outO (d : List Nat) : List (Option AObj) := if d = [] then [] else [some (newBytes d)]
theorem inflA_r (d : List Nat) (q k : Nat) : (inflA (.inr (d, q))).2 k = .tuple [outV d k, .int .i64 (q : Int), .int .i64 0] ∧ (inflA (.inr (d, q))).1.map some = outO d := by
  unfold inflA outV outO
  dsimp only
  split <;> exact ⟨rfl, rfl⟩
theorem bytes_str {st : St} {v : V} {bs : List Nat} (h : bytesAt st v = some bs) : convV st .toStr v = some (.str bs) := by
  have hb := bytesAt_lt h
  obtain ⟨h1, h2⟩ := first_bytes h
  cases v with
  | slice a e n c f =>
    have hn : n = bs.length := by
      have h1 : some n = some bs.length := h1
      exact Option.some.inj h1
    subst hn
    cases a with
    | none =>
      have h2 : some [] = some (bytesV bs) := h2
      have : bs = [] := by
        cases bs with
        | nil => rfl
        | cons x l => cases h2
      subst this
      rfl
    | some p =>
      obtain ⟨i, o⟩ := p
      have h2 : sel (Nat.beq 1 e && Nat.ble bs.length bs.length) (st.loadN i o (bs.length * 1)) none = some (bytesV bs) := h2
      obtain ⟨h3, h4⟩ := sel_some h2
      rw [Bool.and_eq_true, Nat.beq_eq] at h3
      have he : e = 1 := h3.1.symm
      subst he
      show sel (Nat.beq 1 1) (match st.loadN i o bs.length with | some cs => (bytesOf cs).map V.str | none => none) none = _
      rw [Nat.mul_one] at h4
      rw [h4, Nat.beq_refl, sel_true]
      dsimp only
      rw [bytesOf_of hb]
      rfl
  | str s =>
    exfalso
    unfold bytesAt at h
    cases h
  | _ => cases h1
noncomputable def mksV (st : St) (e bytes : Nat) (zs : List V) : Option Nat → Option Nat → Option (V × St)
  | some l, some c => sel (Nat.ble l c && Nat.ble (bytes * c) 281474976710656 && Nat.blt c w63) (match st.alloc (.cells true (repN c zs)) with | some (j, st') => some (.slice (some (j, 0)) e l c true, st') | none => none) none
  | _, _ => none
theorem step_mkslice {call : CallT} {s : Env} {st : St} {e bytes : Nat} {zs : List V} {l c : Src} : stepE call (.mkslice e bytes zs l c) s st = mksV st e bytes zs (natOf (s.ev l)) (natOf (s.ev c)) := by
  show (match ex_mkslice e bytes zs l c s.ev st with | some (.val v, st') => _ | some (.enter g args, st') => _ | none => _) = _
  unfold ex_mkslice mksV
  cases natOf (s.ev l) with
  | none => rfl
  | some l' =>
    cases natOf (s.ev c) with
    | none => rfl
    | some c' =>
      dsimp only
      cases Nat.ble l' c' && Nat.ble (bytes * c') 281474976710656 && Nat.blt c' w63 with
      | false => rfl
      | true =>
        dsimp only [sel_true]
        cases st.alloc (.cells true (repN c' zs)) with
        | none => rfl
        | some p => rfl
theorem mks_few {os : List (Option AObj)} {m : Nat} (h : m < 281474976710656) : mksV (few os) 1 1 [.int .u8 0] (some m) (some m) = some (.slice (some (os.length, 0)) 1 m m true, few (os ++ [some (newBytes (List.replicate m 0))])) := by
  show sel (Nat.ble m m && Nat.ble (1 * m) 281474976710656 && Nat.blt m w63) (match (few os).alloc (.cells true (repN m [.int .u8 (.ofNat 0)])) with | some (j, st') => some (V.slice (some (j, 0)) 1 m m true, st') | none => none) none = _
  rw [ble_t (Nat.le_refl _), ble_t (by omega), blt_t (show m < w63 from by unfold w63; omega), few_alloc, repN_zero]
  rfl
theorem blk_lt {last : Nat} {x : List Nat} (hl : last < 256) (h : ∀ b ∈ x, b < 256) : ∀ b ∈ blkB last x, b < 256 := by
  intro b hb
  unfold blkB blkH at hb
  rcases List.mem_append.1 hb with h1 | h1
  · simp only [List.mem_cons, List.not_mem_nil, or_false] at h1
    omega
  · exact h b h1
theorem stored_lt : ∀ (k : Nat) (bs : List Nat), bs.length ≤ k → (∀ b ∈ bs, b < 256) → ∀ b ∈ storedB bs, b < 256
  | k, bs, hk, hb => by
    rcases Nat.lt_or_ge 65535 bs.length with h | h
    · cases k with
      | zero => omega
      | succ k =>
        have ih := stored_lt k (bs.drop 65535) (by rw [List.length_drop]; omega) (fun b h => hb b (List.mem_of_mem_drop h))
        rw [stored_more h]
        intro b hm
        rcases List.mem_append.1 hm with h1 | h1
        · exact blk_lt (by omega) (fun b h => hb b (List.mem_of_mem_take h)) b h1
        · exact ih b h1
    · rw [stored_last h]
      exact blk_lt (by omega) hb
theorem PutF.withF {call : CallT} {n g lf : Nat} {fn : AFunc} (h : PutF call n) (hne : n ≠ g) : PutF (Vabs.withF call g lf fn) n := fun os os' c R X sv ov bs p d lim b a1 a2 a3 => by rw [withF_other hne]; exact h os os' c R X sv ov bs p d lim b a1 a2 a3
theorem StoredF.withF {call : CallT} {n g lf : Nat} {fn : AFunc} (h : StoredF call n) (hne : n ≠ g) : StoredF (Vabs.withF call g lf fn) n := fun os os' c R X sv ov bs q d lim a1 a2 a3 a4 => by rw [withF_other hne]; exact h os os' c R X sv ov bs q d lim a1 a2 a3 a4
theorem BlkF.withF {call : CallT} {n g lf : Nat} {fn : AFunc} (h : BlkF call n) (hne : n ≠ g) : BlkF (Vabs.withF call g lf fn) n := fun os os' c R X sv ov bs q d lim r a1 a2 a3 a4 => by rw [withF_other hne]; exact h os os' c R X sv ov bs q d lim r a1 a2 a3 a4
theorem NewBF.withF {call : CallT} {n g lf : Nat} {fn : AFunc} (h : NewBF call n) (hne : n ≠ g) : NewBF (Vabs.withF call g lf fn) n := fun os v bs a1 a2 a3 => by rw [withF_other hne]; exact h os v bs a1 a2 a3

end Go.Vabs.Sk

namespace Go.Vabs.Sl
set_option linter.unusedVariables false
set_option linter.unusedSimpArgs false
set_option maxRecDepth 10000
def FlateKnown_c (n_Inflate : Nat) (n_Stored : Nat) (n_known : Nat) : AFunc := AFunc.mk 143 (.seq (.reg [AOper.mk (some .h) (.mv (.c (.bool false))) none]) (.seq (.reg [AOper.mk (some (.o (.i (.i (.i .h))))) (.bslice 1 5 [.int .u8 (.ofNat 0)] [(0, (1, .c (.int .u8 (.ofNat 75)))), (1, (1, .c (.int .u8 (.ofNat 76)))), (2, (1, .c (.int .u8 (.ofNat 132)))), (3, (1, .c (.int .u8 (.ofNat 1)))), (4, (1, .c (.int .u8 (.ofNat 0))))]) none, AOper.mk (some (.o .h)) (.mv (.t (.o (.i (.i (.i .h)))))) none]) (.seq (.reg [AOper.mk (some (.i (.o (.o (.o (.o .h)))))) (.call n_Inflate [.t (.o .h), .c (.int .i64 (.ofNat 100))]) none, AOper.mk (some (.o (.i (.o (.o (.o .h)))))) (.extract (.t (.i (.o (.o (.o (.o .h)))))) 0) none, AOper.mk (some (.i (.i (.o (.o (.o .h)))))) (.extract (.t (.i (.o (.o (.o (.o .h)))))) 1) none, AOper.mk (some (.o (.o (.i (.o (.o .h)))))) (.extract (.t (.i (.o (.o (.o (.o .h)))))) 2) none, AOper.mk (some (.i .h)) (.mv (.t (.o (.i (.o (.o (.o .h))))))) none, AOper.mk (some (.o (.o .h))) (.mv (.t (.i (.i (.o (.o (.o .h))))))) none, AOper.mk (some (.i (.o .h))) (.mv (.t (.o (.o (.i (.o (.o .h))))))) none]) (.seq (.reg [AOper.mk (some (.i (.i (.i (.o (.o .h)))))) (.call n_Inflate [.t (.o .h), .c (.int .i64 (.ofNat 9))]) none, AOper.mk (some (.o (.o (.o (.i (.o .h)))))) (.extract (.t (.i (.i (.i (.o (.o .h)))))) 0) none, AOper.mk (some (.i (.o (.o (.i (.o .h)))))) (.extract (.t (.i (.i (.i (.o (.o .h)))))) 1) none, AOper.mk (some (.o (.i (.o (.i (.o .h)))))) (.extract (.t (.i (.i (.i (.o (.o .h)))))) 2) none, AOper.mk (some (.o (.i .h))) (.mv (.t (.o (.o (.o (.i (.o .h))))))) none, AOper.mk (some (.i (.i .h))) (.mv (.t (.i (.o (.o (.i (.o .h))))))) none, AOper.mk (some (.o (.o (.o .h)))) (.mv (.t (.o (.i (.o (.i (.o .h))))))) none]) (.seq (.reg [AOper.mk (some (.i (.o (.i (.i (.o .h)))))) (.slice (.slice 1) (.t (.o .h)) none (some (.c (.int .i64 (.ofNat 2)))) none) none, AOper.mk (some (.o (.i (.i (.i (.o .h)))))) (.call n_Inflate [.t (.i (.o (.i (.i (.o .h))))), .c (.int .i64 (.ofNat 100))]) none, AOper.mk (some (.i (.i (.i (.i (.o .h)))))) (.extract (.t (.o (.i (.i (.i (.o .h)))))) 0) none, AOper.mk (some (.o (.o (.o (.o (.i .h)))))) (.extract (.t (.o (.i (.i (.i (.o .h)))))) 1) none, AOper.mk (some (.i (.o (.o (.o (.i .h)))))) (.extract (.t (.o (.i (.i (.i (.o .h)))))) 2) none, AOper.mk (some (.i (.o (.o .h)))) (.mv (.t (.i (.i (.i (.i (.o .h))))))) none, AOper.mk (some (.o (.i (.o .h)))) (.mv (.t (.o (.o (.o (.o (.i .h))))))) none, AOper.mk (some (.i (.i (.o .h)))) (.mv (.t (.i (.o (.o (.o (.i .h))))))) none]) (.seq (.reg [AOper.mk (some (.i (.i (.o (.o (.i .h)))))) (.call n_Inflate [.c (.slice none 0 0 0 true), .c (.int .i64 (.ofNat 100))]) none, AOper.mk (some (.o (.o (.i (.o (.i .h)))))) (.extract (.t (.i (.i (.o (.o (.i .h)))))) 0) none, AOper.mk (some (.i (.o (.i (.o (.i .h)))))) (.extract (.t (.i (.i (.o (.o (.i .h)))))) 1) none, AOper.mk (some (.o (.i (.i (.o (.i .h)))))) (.extract (.t (.i (.i (.o (.o (.i .h)))))) 2) none, AOper.mk (some (.o (.o (.i .h)))) (.mv (.t (.o (.o (.i (.o (.i .h))))))) none, AOper.mk (some (.i (.o (.i .h)))) (.mv (.t (.i (.o (.i (.o (.i .h))))))) none, AOper.mk (some (.o (.i (.i .h)))) (.mv (.t (.o (.i (.i (.o (.i .h))))))) none]) (.seq (.reg [AOper.mk (some (.o (.o (.o (.i (.i .h)))))) (.bslice 1 1 [.int .u8 (.ofNat 0)] [(0, (1, .c (.int .u8 (.ofNat 7))))]) none, AOper.mk (some (.i (.o (.o (.i (.i .h)))))) (.call n_Inflate [.t (.o (.o (.o (.i (.i .h))))), .c (.int .i64 (.ofNat 100))]) none, AOper.mk (some (.o (.i (.o (.i (.i .h)))))) (.extract (.t (.i (.o (.o (.i (.i .h)))))) 0) none, AOper.mk (some (.i (.i (.o (.i (.i .h)))))) (.extract (.t (.i (.o (.o (.i (.i .h)))))) 1) none, AOper.mk (some (.o (.o (.i (.i (.i .h)))))) (.extract (.t (.i (.o (.o (.i (.i .h)))))) 2) none, AOper.mk (some (.i (.i (.i .h)))) (.mv (.t (.o (.i (.o (.i (.i .h))))))) none, AOper.mk (some (.o (.o (.o (.o .h))))) (.mv (.t (.i (.i (.o (.i (.i .h))))))) none, AOper.mk (some (.i (.o (.o (.o .h))))) (.mv (.t (.o (.o (.i (.i (.i .h))))))) none]) (.seq (.reg [AOper.mk (some (.o (.i (.i (.i (.i .h)))))) (.bslice 1 5 [.int .u8 (.ofNat 0)] [(0, (1, .c (.int .u8 (.ofNat 1)))), (1, (1, .c (.int .u8 (.ofNat 1)))), (2, (1, .c (.int .u8 (.ofNat 0)))), (3, (1, .c (.int .u8 (.ofNat 0)))), (4, (1, .c (.int .u8 (.ofNat 0))))]) none, AOper.mk (some (.i (.i (.i (.i (.i .h)))))) (.call n_Inflate [.t (.o (.i (.i (.i (.i .h))))), .c (.int .i64 (.ofNat 100))]) none, AOper.mk (some (.o (.o (.o (.o (.o (.o .h))))))) (.extract (.t (.i (.i (.i (.i (.i .h)))))) 0) none, AOper.mk (some (.i (.o (.o (.o (.o (.o .h))))))) (.extract (.t (.i (.i (.i (.i (.i .h)))))) 1) none, AOper.mk (some (.o (.i (.o (.o (.o (.o .h))))))) (.extract (.t (.i (.i (.i (.i (.i .h)))))) 2) none, AOper.mk (some (.o (.i (.o (.o .h))))) (.mv (.t (.o (.o (.o (.o (.o (.o .h)))))))) none, AOper.mk (some (.i (.i (.o (.o .h))))) (.mv (.t (.i (.o (.o (.o (.o (.o .h)))))))) none, AOper.mk (some (.o (.o (.i (.o .h))))) (.mv (.t (.o (.i (.o (.o (.o (.o .h)))))))) none]) (.seq (.reg [AOper.mk (some (.o (.o (.i (.o (.o (.o .h))))))) (.bslice 1 1 [.int .u8 (.ofNat 0)] [(0, (1, .c (.int .u8 (.ofNat 97))))]) none, AOper.mk (some (.i (.o (.i (.o (.o (.o .h))))))) (.conv .same (.t (.o (.o (.i (.o (.o (.o .h)))))))) none, AOper.mk (some (.o (.i (.i (.o (.o (.o .h))))))) (.call n_Stored [.t (.i (.o (.i (.o (.o (.o .h))))))]) none, AOper.mk (some (.i (.i (.i (.o (.o (.o .h))))))) (.call n_Inflate [.t (.o (.i (.i (.o (.o (.o .h)))))), .c (.int .i64 (.negSucc 4))]) none, AOper.mk (some (.o (.o (.o (.i (.o (.o .h))))))) (.extract (.t (.i (.i (.i (.o (.o (.o .h))))))) 0) none, AOper.mk (some (.i (.o (.o (.i (.o (.o .h))))))) (.extract (.t (.i (.i (.i (.o (.o (.o .h))))))) 1) none, AOper.mk (some (.o (.i (.o (.i (.o (.o .h))))))) (.extract (.t (.i (.i (.i (.o (.o (.o .h))))))) 2) none, AOper.mk (some (.i (.o (.i (.o .h))))) (.mv (.t (.o (.o (.o (.i (.o (.o .h)))))))) none, AOper.mk (some (.o (.i (.i (.o .h))))) (.mv (.t (.i (.o (.o (.i (.o (.o .h)))))))) none, AOper.mk (some (.i (.i (.i (.o .h))))) (.mv (.t (.o (.i (.o (.i (.o (.o .h)))))))) none]) (.seq (.reg [AOper.mk (some (.o (.o (.i (.i (.o (.o .h))))))) (.bslice 1 3 [.int .u8 (.ofNat 0)] [(0, (1, .c (.int .u8 (.ofNat 3)))), (1, (1, .c (.int .u8 (.ofNat 2)))), (2, (1, .c (.int .u8 (.ofNat 0))))]) none, AOper.mk (some (.i (.o (.i (.i (.o (.o .h))))))) (.call n_Inflate [.t (.o (.o (.i (.i (.o (.o .h)))))), .c (.int .i64 (.ofNat 100))]) none, AOper.mk (some (.o (.i (.i (.i (.o (.o .h))))))) (.extract (.t (.i (.o (.i (.i (.o (.o .h))))))) 0) none, AOper.mk (some (.i (.i (.i (.i (.o (.o .h))))))) (.extract (.t (.i (.o (.i (.i (.o (.o .h))))))) 1) none, AOper.mk (some (.o (.o (.o (.o (.i (.o .h))))))) (.extract (.t (.i (.o (.i (.i (.o (.o .h))))))) 2) none, AOper.mk (some (.o (.o (.o (.i .h))))) (.mv (.t (.o (.i (.i (.i (.o (.o .h)))))))) none, AOper.mk (some (.i (.o (.o (.i .h))))) (.mv (.t (.i (.i (.i (.i (.o (.o .h)))))))) none, AOper.mk (some (.o (.i (.o (.i .h))))) (.mv (.t (.o (.o (.o (.o (.i (.o .h)))))))) none]) (.seq (.reg [AOper.mk (some (.o (.i (.o (.o (.i (.o .h))))))) (.mkslice 1 1 [.int .u8 (.ofNat 0)] (.c (.int .i64 (.ofNat 65536))) (.c (.int .i64 (.ofNat 65536)))) none, AOper.mk (some (.i (.i (.o (.o (.i (.o .h))))))) (.call n_Stored [.t (.o (.i (.o (.o (.i (.o .h))))))]) none, AOper.mk (some (.o (.o (.i (.o (.i (.o .h))))))) (.call n_Inflate [.t (.i (.i (.o (.o (.i (.o .h)))))), .c (.int .i64 (.ofNat 65536))]) none, AOper.mk (some (.i (.o (.i (.o (.i (.o .h))))))) (.extract (.t (.o (.o (.i (.o (.i (.o .h))))))) 0) none, AOper.mk (some (.o (.i (.i (.o (.i (.o .h))))))) (.extract (.t (.o (.o (.i (.o (.i (.o .h))))))) 1) none, AOper.mk (some (.i (.i (.i (.o (.i (.o .h))))))) (.extract (.t (.o (.o (.i (.o (.i (.o .h))))))) 2) none, AOper.mk (some (.i (.i (.o (.i .h))))) (.mv (.t (.i (.o (.i (.o (.i (.o .h)))))))) none, AOper.mk (some (.o (.o (.i (.i .h))))) (.mv (.t (.o (.i (.i (.o (.i (.o .h)))))))) none, AOper.mk (some (.i (.o (.i (.i .h))))) (.mv (.t (.i (.i (.i (.o (.i (.o .h)))))))) none]) (.seq (.reg [AOper.mk (some (.o (.o (.o (.i (.i (.o .h))))))) (.call n_known []) none, AOper.mk (some (.i (.o (.o (.i (.i (.o .h))))))) (.mv (.t (.o (.o (.o (.i (.i (.o .h)))))))) none, AOper.mk (some (.i (.i (.o (.i (.i (.o .h))))))) (.conv .toStr (.t (.i .h))) (some (.i (.o (.o (.i (.i (.o .h))))), true)), AOper.mk (some (.o (.o (.i (.i (.i (.o .h))))))) (.bin .eql (.val .str) (.t (.i (.i (.o (.i (.i (.o .h))))))) (.c (.str [97, 97, 97, 97, 97, 97, 97, 97, 97, 97]))) (some (.i (.o (.o (.i (.i (.o .h))))), true)), AOper.mk (some (.i (.o (.i (.i (.i (.o .h))))))) (.pick (.t (.i (.o (.o (.i (.i (.o .h))))))) (.t (.o (.o (.i (.i (.i (.o .h))))))) (.c (.bool false))) none, AOper.mk (some (.o (.i (.i (.i (.i (.o .h))))))) (.mv (.t (.i (.o (.i (.i (.i (.o .h)))))))) none, AOper.mk (some (.o (.o (.o (.o (.o (.i .h))))))) (.bin .eql (.val .int) (.t (.i (.o .h))) (.c (.int .i64 (.ofNat 0)))) (some (.o (.i (.i (.i (.i (.o .h))))), true)), AOper.mk (some (.i (.o (.o (.o (.o (.i .h))))))) (.pick (.t (.o (.i (.i (.i (.i (.o .h))))))) (.t (.o (.o (.o (.o (.o (.i .h))))))) (.c (.bool false))) none, AOper.mk (some (.o (.i (.o (.o (.o (.i .h))))))) (.mv (.t (.i (.o (.o (.o (.o (.i .h)))))))) none, AOper.mk (some (.o (.o (.i (.o (.o (.i .h))))))) (.bin .eql (.val .int) (.t (.o (.o (.o .h)))) (.c (.int .i64 (.ofNat 4)))) (some (.o (.i (.o (.o (.o (.i .h))))), true)), AOper.mk (some (.i (.o (.i (.o (.o (.i .h))))))) (.pick (.t (.o (.i (.o (.o (.o (.i .h))))))) (.t (.o (.o (.i (.o (.o (.i .h))))))) (.c (.bool false))) none, AOper.mk (some (.o (.i (.i (.o (.o (.i .h))))))) (.mv (.t (.i (.o (.i (.o (.o (.i .h)))))))) none, AOper.mk (some (.o (.o (.o (.i (.o (.i .h))))))) (.bin .eql (.val .int) (.t (.i (.i (.o .h)))) (.c (.int .i64 (.ofNat 3)))) (some (.o (.i (.i (.o (.o (.i .h))))), true)), AOper.mk (some (.i (.o (.o (.i (.o (.i .h))))))) (.pick (.t (.o (.i (.i (.o (.o (.i .h))))))) (.t (.o (.o (.o (.i (.o (.i .h))))))) (.c (.bool false))) none, AOper.mk (some (.o (.i (.o (.i (.o (.i .h))))))) (.mv (.t (.i (.o (.o (.i (.o (.i .h)))))))) none, AOper.mk (some (.o (.o (.i (.i (.o (.i .h))))))) (.bin .eql (.val .int) (.t (.o (.i (.i .h)))) (.c (.int .i64 (.ofNat 3)))) (some (.o (.i (.o (.i (.o (.i .h))))), true)), AOper.mk (some (.i (.o (.i (.i (.o (.i .h))))))) (.pick (.t (.o (.i (.o (.i (.o (.i .h))))))) (.t (.o (.o (.i (.i (.o (.i .h))))))) (.c (.bool false))) none, AOper.mk (some (.o (.i (.i (.i (.o (.i .h))))))) (.mv (.t (.i (.o (.i (.i (.o (.i .h)))))))) none, AOper.mk (some (.o (.o (.o (.o (.i (.i .h))))))) (.bin .eql (.val .int) (.t (.i (.o (.o (.o .h))))) (.c (.int .i64 (.ofNat 2)))) (some (.o (.i (.i (.i (.o (.i .h))))), true)), AOper.mk (some (.i (.o (.o (.o (.i (.i .h))))))) (.pick (.t (.o (.i (.i (.i (.o (.i .h))))))) (.t (.o (.o (.o (.o (.i (.i .h))))))) (.c (.bool false))) none, AOper.mk (some (.o (.i (.o (.o (.i (.i .h))))))) (.mv (.t (.i (.o (.o (.o (.i (.i .h)))))))) none, AOper.mk (some (.o (.o (.i (.o (.i (.i .h))))))) (.bin .eql (.val .int) (.t (.o (.o (.i (.o .h))))) (.c (.int .i64 (.ofNat 2)))) (some (.o (.i (.o (.o (.i (.i .h))))), true)), AOper.mk (some (.i (.o (.i (.o (.i (.i .h))))))) (.pick (.t (.o (.i (.o (.o (.i (.i .h))))))) (.t (.o (.o (.i (.o (.i (.i .h))))))) (.c (.bool false))) none, AOper.mk (some (.o (.i (.i (.o (.i (.i .h))))))) (.mv (.t (.i (.o (.i (.o (.i (.i .h)))))))) none, AOper.mk (some (.o (.o (.o (.i (.i (.i .h))))))) (.bin .eql (.val .int) (.t (.i (.i (.i (.o .h))))) (.c (.int .i64 (.ofNat 4)))) (some (.o (.i (.i (.o (.i (.i .h))))), true)), AOper.mk (some (.i (.o (.o (.i (.i (.i .h))))))) (.pick (.t (.o (.i (.i (.o (.i (.i .h))))))) (.t (.o (.o (.o (.i (.i (.i .h))))))) (.c (.bool false))) none, AOper.mk (some (.o (.i (.o (.i (.i (.i .h))))))) (.mv (.t (.i (.o (.o (.i (.i (.i .h)))))))) none, AOper.mk (some (.o (.o (.i (.i (.i (.i .h))))))) (.bin .eql (.val .int) (.t (.o (.i (.o (.i .h))))) (.c (.int .i64 (.ofNat 2)))) (some (.o (.i (.o (.i (.i (.i .h))))), true)), AOper.mk (some (.i (.o (.i (.i (.i (.i .h))))))) (.pick (.t (.o (.i (.o (.i (.i (.i .h))))))) (.t (.o (.o (.i (.i (.i (.i .h))))))) (.c (.bool false))) none, AOper.mk (some (.o (.i (.i (.i (.i (.i .h))))))) (.mv (.t (.i (.o (.i (.i (.i (.i .h)))))))) none, AOper.mk (some (.o (.o (.o (.o (.o (.o (.o .h)))))))) (.len .slice (.t (.i (.i (.o (.i .h)))))) (some (.o (.i (.i (.i (.i (.i .h))))), true)), AOper.mk (some (.i (.o (.o (.o (.o (.o (.o .h)))))))) (.bin .eql (.val .int) (.t (.o (.o (.o (.o (.o (.o (.o .h)))))))) (.c (.int .i64 (.ofNat 65536)))) (some (.o (.i (.i (.i (.i (.i .h))))), true)), AOper.mk (some (.o (.i (.o (.o (.o (.o (.o .h)))))))) (.pick (.t (.o (.i (.i (.i (.i (.i .h))))))) (.t (.i (.o (.o (.o (.o (.o (.o .h)))))))) (.c (.bool false))) none, AOper.mk (some (.i (.i (.o (.o (.o (.o (.o .h)))))))) (.mv (.t (.o (.i (.o (.o (.o (.o (.o .h))))))))) none, AOper.mk (some (.i (.o (.i (.o (.o (.o (.o .h)))))))) (.bin .eql (.val .int) (.t (.o (.o (.i (.i .h))))) (.c (.int .i64 (.ofNat 65546)))) (some (.i (.i (.o (.o (.o (.o (.o .h)))))), true)), AOper.mk (some (.o (.i (.i (.o (.o (.o (.o .h)))))))) (.pick (.t (.i (.i (.o (.o (.o (.o (.o .h)))))))) (.t (.i (.o (.i (.o (.o (.o (.o .h)))))))) (.c (.bool false))) none, AOper.mk (some (.i (.i (.i (.o (.o (.o (.o .h)))))))) (.mv (.t (.o (.i (.i (.o (.o (.o (.o .h))))))))) none, AOper.mk (some (.i (.o (.o (.i (.o (.o (.o .h)))))))) (.bin .eql (.val .int) (.t (.i (.o (.i (.i .h))))) (.c (.int .i64 (.ofNat 0)))) (some (.i (.i (.i (.o (.o (.o (.o .h)))))), true)), AOper.mk (some (.o (.i (.o (.i (.o (.o (.o .h)))))))) (.pick (.t (.i (.i (.i (.o (.o (.o (.o .h)))))))) (.t (.i (.o (.o (.i (.o (.o (.o .h)))))))) (.c (.bool false))) none, AOper.mk (some (.i (.i (.o (.i (.o (.o (.o .h)))))))) (.mv (.t (.o (.i (.o (.i (.o (.o (.o .h))))))))) none, AOper.mk (some (.o (.o (.i (.i (.o (.o (.o .h)))))))) (.call n_Stored [.c (.slice none 0 0 0 true)]) (some (.i (.i (.o (.i (.o (.o (.o .h)))))), true)), AOper.mk (some (.i (.o (.i (.i (.o (.o (.o .h)))))))) (.len .slice (.t (.o (.o (.i (.i (.o (.o (.o .h))))))))) (some (.i (.i (.o (.i (.o (.o (.o .h)))))), true)), AOper.mk (some (.o (.i (.i (.i (.o (.o (.o .h)))))))) (.bin .eql (.val .int) (.t (.i (.o (.i (.i (.o (.o (.o .h)))))))) (.c (.int .i64 (.ofNat 5)))) (some (.i (.i (.o (.i (.o (.o (.o .h)))))), true)), AOper.mk (some (.i (.i (.i (.i (.o (.o (.o .h)))))))) (.pick (.t (.i (.i (.o (.i (.o (.o (.o .h)))))))) (.t (.o (.i (.i (.i (.o (.o (.o .h)))))))) (.c (.bool false))) none, AOper.mk (some .h) (.mv (.t (.i (.i (.i (.i (.o (.o (.o .h))))))))) none]) .ret)))))))))))) [.tmp .h]
attribute [local simp] wp_skip wp_ret wp_exit wp_reg wp_seq wp_cond wp_block thenQ_normal thenQ_ret thenQ_exit blockQ_normal blockQ_ret blockQ_exit wpCond_true wpCond_false wpOps_nil wpVal_some wpGuard_true wpGuard_false wpOps_guard wpOps_cons
  put_at put_no ev_c ev_slot posEq_h posEq_o posEq_i posEq_ho posEq_hi posEq_oh posEq_ih posEq_oi posEq_io sel_true sel_false
  okv_some step_mv step_call step_pick pickV_bool step_bin bin_add bin_sub bin_mul bin_eql bin_neq bin_lss bin_leq bin_gtr bin_geq bin_eqb bin_neb bin_eqs bin_nes step_un un_not un_neg step_len len_slice len_str len_const step_extract extractV nth step_convInt conv_int step_convStr step_slice step_idxAddr natOf_nat step_load step_index step_field step_fieldAddr step_build step_minmax
  step_alloc step_bslice bsliceV_some newV_some step_store step_append boolIs_b boolIs_t finQ_ret finQ_normal ressE_nil ressE_cons resE_tmp consO_some initE_nil initE_cons pos_0 pos_1 pos_2 pos_3 pos_4 pos_5 pos_6 pos_7 pos_8 plain_bool plain_int plain_str plain_ptr plain_slice plain_map plain_agg plain_func plain_nilFunc V.undef oneOf_one oneOf_two ble_self
open Go.Vabs.Pk Go.Vabs.Ph Go.Vabs.Fb Go.Vabs.Sa Go.Vabs.Sb Go.Vabs.Sc Go.Vabs.Sg Go.Vabs.Sh Go.Vabs.Si Go.Vabs.Sj Go.Vabs.Sk
attribute [local simp] step_nilchk nilchk_ptr step_box cells_int cells_bool cells_str cells_slice cells_ptr cells_agg fieldAddrV natOf_zero fill repN splice over newV
  wp_dreg wpDs_nil wpDs_cons wantedE_none wantedE_some wpDGuard_true wpDGuard_lim wpDGuard_false wpDLim_true wpDVal_free wpDVal_lim back_limited next_limited limF_dir limF_false foot_load foot_convStr okAll_nil okAll_cons pastsOf nthP ahead few_next load_limited okPair_dd okPair_dc okPair_cd okPair_cc anyIn_nil anyIn_same anyIn_cons meets_nil meets_nil' blt_dec
/- STREAMS THAT ARE TOLD ONE BY ONE -/
/-- nil or not, the bytes, the limit; what they come to. -/
abbrev Told := Bool × List Nat × Int × (Nat ⊕ (List Nat × Nat))
def toldOf : List Told → Bool → List Nat → Int → Option (Nat ⊕ (List Nat × Nat))
  | [], _, _, _ => none
  | e :: l, n, bs, lim => if e.1 = n ∧ e.2.1 = bs ∧ e.2.2.1 = lim then some e.2.2.2 else toldOf l n bs lim
theorem toldOf_mem : ∀ {L : List Told} {n : Bool} {bs : List Nat} {lim : Int} {r}, toldOf L n bs lim = some r → (n, bs, lim, r) ∈ L
  | [], _, _, _, _, h => by cases h
  | e :: l, n, bs, lim, r, h => by
    unfold toldOf at h
    split at h
    · rename_i hc
      obtain ⟨h1, h2, h3⟩ := hc
      have h4 := Option.some.inj h
      subst h1 h2 h3 h4
      exact List.mem_cons_self ..
    · exact List.mem_cons_of_mem _ (toldOf_mem h)
noncomputable def inflL (L : List Told) (n : Bool) (bs : List Nat) (lim : Int) : Option (Nat ⊕ (List Nat × Nat)) :=
  match toldOf L n bs lim with
  | some r => some r
  | none => if bs ≠ [] ∧ bs.length ≤ 17592186044416 then inflN bs (max 0 lim).toNat (bs.length + 1) 0 [] else none
noncomputable def toldSpec (L : List Told) : Nat → Sight → List V → Option Ans := fun _ l args =>
  match args with
  | [v, .int .i64 lim] => match lookB l v with | some bs => (inflL L (isNil v) bs lim).map inflA | none => none
  | _ => none
theorem toldSpec_mono {L : List Told} : MonoN (toldSpec L) := by
  intro n l l' args a h ha
  unfold toldSpec at ha ⊢
  split at ha
  · split at ha
    · rename_i bs hbs
      rw [lookB_mono h hbs]
      exact ha
    · cases ha
  · cases ha
def ToldRun (P : Program) (g : Nat) (e : Told) : Prop := ∃ call0, Sound P call0 ∧ ∃ v0 s1 σ, call0 g [slOf e.1 e.2.1, .int .i64 e.2.2.1] (memOf e.1 e.2.1) = some (v0, s1) ∧ ∀ τ n, Left τ n (memOf e.1 e.2.1) s1 v0 (inflA e.2.2.2).1 σ ((inflA e.2.2.2).2 n)
theorem told_sound {P : Program} {call : CallT} (hmix : P.follows .mixedOrders = true) (hs : Sound P call) {g nN nB nU : Nat} (hN : NewBF call nN) (hB : BlkF call nB) (hU : UsedF call nU) (hc : compF P g = some (Inflate_c nN nB nU)) {L : List Told} (hL : ∀ e ∈ L, ToldRun P g e) : Sound P (withL call g (lawOf (sightRdN (toldSpec L)))) := by
  refine hs.withE (sightRdN_reads toldSpec_mono) fun args st os f hx => ?_
  unfold sightRdN at hx
  split at hx
  · rename_i hg
    unfold toldSpec at hx
    split at hx
    · rename_i v lim
      split at hx
      · rename_i bs hbs
        cases hr : inflL L (isNil v) bs lim with
        | none => rw [hr] at hx; cases hx
        | some r =>
          rw [hr] at hx
          have hx : inflA r = (os, f) := Option.some.inj hx
          have hos : os = (inflA r).1 := by rw [hx]
          have hf : f = (inflA r).2 := by rw [hx]
          subst hos hf
          unfold inflL at hr
          split at hr
          · rename_i r' hr'
            cases hr
            obtain ⟨call0, h0, v0, s1, σ, h1, h2⟩ := hL _ (toldOf_mem hr')
            have hb : bytesAt st v = some bs := lookB_at hbs
            obtain ⟨τ, _, h3⟩ := seen_bytesN (rest := [.int .i64 lim]) hb (fun u hu => by simp only [List.mem_singleton] at hu; subst hu; rfl)
            exact ⟨call0, h0, τ, _, _, s1, v0, σ, h1, h3, h2 τ _⟩
          · split at hr
            · rename_i hcond
              obtain ⟨s1, v0, σ, h1, h2⟩ := Inflate_hrun hN hB hU (frozen st) [v, .int .i64 lim] (inflA r).1 (inflA r).2 (by rw [frozen_len]; exact hg) (by
                rw [frozen_look]
                unfold inflSpec
                dsimp only
                rw [hbs]
                dsimp only
                rw [if_pos hcond, hr]
                rfl)
              rw [frozen_len] at h2
              exact ⟨_, hs.withF hmix 17592186044419 hc, wayId st.next, _, few (frozen st), s1, v0, σ, by rw [withF_same]; exact h1, seen_frozen hg, h2⟩
            · cases hr
      · cases hx
    · cases hx
  · cases hx
def ToldF (L : List Told) (call : CallT) (g : Nat) : Prop := ∀ os v bs (lim : Int) r, v.good os.length = true → lookB (few os).look v = some bs → inflL L (isNil v) bs lim = some r → call g [v, .int .i64 lim] (few os) = some ((inflA r).2 os.length, few (os ++ (inflA r).1.map some))
theorem told_fact {call : CallT} {g : Nat} {L : List Told} : ToldF L (withL call g (lawOf (sightRdN (toldSpec L)))) g := by
  intro os v bs lim r hg hb hr
  rw [sightN_call (by simp [goods, hg, few_next, V.good])]
  unfold toldSpec
  dsimp only
  rw [hb]
  dsimp only
  rw [hr]
  exact lawOut_few
theorem ToldF.other {call : CallT} {n g : Nat} {L : List Told} {l : List V → St → Option (V × St)} (h : ToldF L call n) (hne : n ≠ g) : ToldF L (withL call g l) n := fun os v bs lim r a b c => by rw [withL_other hne]; exact h os v bs lim r a b c
theorem ToldF.withF {call : CallT} {n g lf : Nat} {L : List Told} {fn : AFunc} (h : ToldF L call n) (hne : n ≠ g) : ToldF L (Vabs.withF call g lf fn) n := fun os v bs lim r a b c => by rw [withF_other hne]; exact h os v bs lim r a b c
/-- A call without arguments. -/
theorem law_none {P : Program} {call : CallT} (h : Sound P call) {g : Nat} {s1 : St} (hrun : call g [] (few []) = some (.bool true, s1)) (W : World) : Calls P g #[] W fun e W' => e = .returned (.bool true) ∧ Go.RowKit.Below W.heap.size W W' :=
  h.law hrun (few_neat _) (ι := fun _ => none) (rel_nil _ W) (fun _ _ => rfl) trivial

/- NIL AS AN ARGUMENT -/
noncomputable def nilArg : V → V
  | .slice none 0 0 0 true => slOf true []
  | v => v
theorem nilArg_R {ι : Map} {v : V} {x : Value} (h : R ι v x) : R ι (nilArg v) x := by
  unfold nilArg
  split
  · obtain ⟨h1, h2, h3⟩ := (show R ι (.slice none 0 0 0 true) x from h)
    exact ⟨h1, h2, h3⟩
  · exact h
theorem nilArgs_R {ι : Map} : ∀ {vs : List V} {xs : List Value}, All2 (R ι) vs xs → All2 (R ι) (vs.map nilArg) xs
  | [], [], _ => trivial
  | _ :: _, _ :: _, ⟨h, hs⟩ => ⟨nilArg_R h, nilArgs_R hs⟩
  | [], _ :: _, h => h.elim
  | _ :: _, [], h => h.elim
noncomputable def nilCall (call : CallT) : CallT := fun g args st => call g (args.map nilArg) st
theorem nil_sound {P : Program} {call : CallT} (h : Sound P call) : Sound P (nilCall call) := by
  refine ⟨fun B g args st v st' hx => ?_, fun g args => h.fr g (args.map nilArg)⟩
  obtain ⟨h1, h2⟩ := h.ok B g (args.map nilArg) st v st' hx
  exact ⟨h1, fun ι w args' hn hrel hfr hargs => h2 ι w args' hn hrel hfr (nilArgs_R hargs)⟩

/- THE SENTENCE'S RUN -/
def as10 : List Nat := [97, 97, 97, 97, 97, 97, 97, 97, 97, 97]
def tolds : List Told := [(false, [75, 76, 132, 1, 0], 100, .inr (as10, 5)), (false, [75, 76, 132, 1, 0], 9, .inl 4), (false, [75, 76], 100, .inl 3), (true, [], 100, .inl 3), (false, [7], 100, .inl 2), (false, [1, 1, 0, 0, 0], 100, .inl 2), (false, [3, 2, 0], 100, .inl 2)]
theorem look_own {os : List (Option AObj)} {i m c : Nat} {f : Bool} {bs : List Nat} (h : (os[i]?).join = some (newBytes bs)) (hb : ∀ b ∈ bs, b < 256) (hm : m ≤ c) (hl : m ≤ bs.length) : lookB (few os).look (.slice (some (i, 0)) 1 m c f) = some (bs.take m) := by
  refine lookB_of (by rw [few_next]; exact join_lt h) (by rw [few_get]; exact h) goods_bytes' hm (by rw [bytesV_len]; omega) ?_ (fun b hm => hb b (List.mem_of_mem_take hm))
  rw [List.drop_zero, bytesV_take]
theorem good_own {os : List (Option AObj)} {i e m c : Nat} {f : Bool} {o : AObj} (h : (os[i]?).join = some o) : (V.slice (some (i, 0)) e m c f).good os.length = true := by
  simp only [V.good, Nat.blt_eq]
  exact join_lt h
noncomputable def sameV (st : St) : V → Option V
  | .slice (some (i, o)) e len cap fix => match st.get i with | some (.cells true _) => some (.slice (some (i, o)) e len cap fix) | _ => none
  | _ => none
theorem step_convSame {call : CallT} {s : Env} {st : St} {x : Src} : stepE call (.conv .same x) s st = okv (sameV st (s.ev x)) st := by
  refine step_of ?_
  show ex_conv .same x s.ev st = _
  unfold ex_conv sameV
  cases s.ev x with
  | slice a e n c f =>
    cases a with
    | none => rfl
    | some p =>
      obtain ⟨i, o⟩ := p
      dsimp only
      cases st.get i with
      | none => rfl
      | some ob =>
        cases ob with
        | map own es k => rfl
        | cells own cs => cases own <;> rfl
  | _ => rfl
theorem same_few {os : List (Option AObj)} {i o e n c : Nat} {f : Bool} {cs : List V} (h : (os[i]?).join = some (.cells true cs)) : sameV (few os) (.slice (some (i, o)) e n c f) = some (.slice (some (i, o)) e n c f) := by
  show (match (few os).get i with | some (.cells true _) => some (V.slice (some (i, o)) e n c f) | _ => none) = _
  rw [few_get, h]
theorem told_none {n : Bool} {bs : List Nat} {lim : Int} (h1 : lim ≠ 100) (h2 : lim ≠ 9) : toldOf tolds n bs lim = none := by
  have e1 : (100 : Int) ≠ lim := fun e => h1 e.symm
  have e2 : (9 : Int) ≠ lim := fun e => h2 e.symm
  simp [tolds, toldOf, e1, e2]
theorem inflL_stored {n : Bool} {bs : List Nat} {lim : Int} {r} (h1 : lim ≠ 100) (h2 : lim ≠ 9) (h0 : bs ≠ []) (hl : bs.length ≤ 17592186044416) (h : inflN bs (max 0 lim).toNat (bs.length + 1) 0 [] = some r) : inflL tolds n bs lim = some r := by
  unfold inflL
  rw [told_none h1 h2]
  dsimp only
  rw [if_pos ⟨h0, hl⟩, h]
set_option maxHeartbeats 4000000 in
theorem Known_run {call0 : CallT} {lf nI nS nK : Nat} (hS : StoredLF call0 nS) (hI : ToldF tolds call0 nI) (hK : ∀ st, call0 nK [] st = some (.bool true, st)) :
    ∃ s1, enterF (nilCall call0) lf [] (few []) (FlateKnown_c nI nS nK) = some (.bool true, s1) := by
  have main := enter_wp (call := nilCall call0) (lf := lf) (n := 143) (args := []) (st := few []) (K := fun r _ => r = .bool true) (c := (FlateKnown_c nI nS nK).code) (rs := (FlateKnown_c nI nS nK).results) ?_
  · obtain ⟨w, st', h1, rfl⟩ := main
    exact ⟨st', h1⟩
  · -- the streams of a few bytes
    obtain ⟨A, hA⟩ : ∃ A, A = [some (newBytes [75, 76, 132, 1, 0])] := ⟨_, rfl⟩
    have hAl : A.length = 1 := by rw [hA]; rfl
    have hA0 : (A[0]?).join = some (newBytes [75, 76, 132, 1, 0]) := by rw [hA]; rfl
    have al1 : (few []).alloc (.cells true [.int .u8 75, .int .u8 76, .int .u8 132, .int .u8 1, .int .u8 0]) = some (0, few A) := by rw [hA, few_alloc]; rfl
    have b5 : ∀ b ∈ [75, 76, 132, 1, 0], b < 256 := by decide
    have c1 := hI A (.slice (some (0, 0)) 1 5 5 true) _ 100 (.inr (as10, 5)) (good_own hA0) (look_own hA0 b5 (by decide) (by decide)) rfl
    obtain ⟨B, hB⟩ : ∃ B, B = A ++ [some (newBytes as10)] := ⟨_, rfl⟩
    have c1 : nilCall call0 nI [.slice (some (0, 0)) 1 5 5 true, .int .i64 100] (few A) = some (.tuple [.slice (some (1, 0)) 1 10 10 false, .int .i64 5, .int .i64 0], few B) := by
      show call0 nI [.slice (some (0, 0)) 1 5 5 true, .int .i64 100] (few A) = _
      rw [c1, hB, (inflA_r as10 5 A.length).1, (inflA_r as10 5 0).2]
      unfold outV outO
      rw [if_neg (by decide), if_neg (by decide), hAl]
      rfl
    have hBl : B.length = 2 := by rw [hB, List.length_append, hAl]; rfl
    have hBo : ∀ i, i < 1 → (B[i]?).join = (A[i]?).join := fun i hi => by rw [hB, join_app (by omega)]
    have hB0 : (B[0]?).join = some (newBytes [75, 76, 132, 1, 0]) := by rw [hBo 0 (by omega)]; exact hA0
    have hB1 : (B[1]?).join = some (newBytes as10) := by rw [hB, ← hAl]; simp
    have err : ∀ {os v bs lim} {e : Nat}, v.good os.length = true → lookB (few os).look v = some bs → inflL tolds (isNil v) bs lim = some (.inl e) → call0 nI [v, .int .i64 lim] (few os) = some (.tuple [.slice none 0 0 0 true, .int .i64 0, .int .i64 (e : Int)], few os) := fun {os v bs lim e} h1 h2 h3 => by
      rw [hI os v bs lim _ h1 h2 h3]
      show some (_, few (os ++ [])) = _
      rw [List.append_nil]
      rfl
    have c2 : nilCall call0 nI [.slice (some (0, 0)) 1 5 5 true, .int .i64 9] (few B) = some (.tuple [.slice none 0 0 0 true, .int .i64 0, .int .i64 4], few B) :=
      err (e := 4) (good_own hB0) (look_own hB0 b5 (by decide) (by decide)) rfl
    have sl : sliceOp (.slice 1) (.slice (some (0, 0)) 1 5 5 true) none (some (.int .i64 2)) none = some (.slice (some (0, 0)) 1 2 5 true) := rfl
    have c3 : nilCall call0 nI [.slice (some (0, 0)) 1 2 5 true, .int .i64 100] (few B) = some (.tuple [.slice none 0 0 0 true, .int .i64 0, .int .i64 3], few B) :=
      err (e := 3) (good_own hB0) (look_own hB0 b5 (by decide) (by decide)) rfl
    have c4 : nilCall call0 nI [.slice none 0 0 0 true, .int .i64 100] (few B) = some (.tuple [.slice none 0 0 0 true, .int .i64 0, .int .i64 3], few B) :=
      err (e := 3) (v := slOf true []) (bs := []) rfl rfl rfl
    obtain ⟨C, hC⟩ : ∃ C, C = B ++ [some (newBytes [7])] := ⟨_, rfl⟩
    have hCl : C.length = 3 := by rw [hC, List.length_append, hBl]; rfl
    have al2 : (few B).alloc (.cells true [.int .u8 7]) = some (2, few C) := by rw [hC, few_alloc, hBl]; rfl
    have hC2 : (C[2]?).join = some (newBytes [7]) := by rw [hC, ← hBl]; simp
    have hC1 : (C[1]?).join = some (newBytes as10) := by rw [hC, join_app (by omega)]; exact hB1
    have c5 : nilCall call0 nI [.slice (some (2, 0)) 1 1 1 true, .int .i64 100] (few C) = some (.tuple [.slice none 0 0 0 true, .int .i64 0, .int .i64 2], few C) :=
      err (e := 2) (good_own hC2) (look_own hC2 (by decide) (by decide) (by decide)) rfl
    obtain ⟨D, hD⟩ : ∃ D, D = C ++ [some (newBytes [1, 1, 0, 0, 0])] := ⟨_, rfl⟩
    have hDl : D.length = 4 := by rw [hD, List.length_append, hCl]; rfl
    have al3 : (few C).alloc (.cells true [.int .u8 1, .int .u8 1, .int .u8 0, .int .u8 0, .int .u8 0]) = some (3, few D) := by rw [hD, few_alloc, hCl]; rfl
    have hD3 : (D[3]?).join = some (newBytes [1, 1, 0, 0, 0]) := by rw [hD, ← hCl]; simp
    have hD1 : (D[1]?).join = some (newBytes as10) := by rw [hD, join_app (by omega)]; exact hC1
    have c6 : nilCall call0 nI [.slice (some (3, 0)) 1 5 5 true, .int .i64 100] (few D) = some (.tuple [.slice none 0 0 0 true, .int .i64 0, .int .i64 2], few D) :=
      err (e := 2) (good_own hD3) (look_own hD3 (by decide) (by decide) (by decide)) rfl
    -- one byte, stored
    obtain ⟨E, hE⟩ : ∃ E, E = D ++ [some (newBytes [97])] := ⟨_, rfl⟩
    have hEl : E.length = 5 := by rw [hE, List.length_append, hDl]; rfl
    have al4 : (few D).alloc (.cells true [.int .u8 97]) = some (4, few E) := by rw [hE, few_alloc, hDl]; rfl
    have hE4 : (E[4]?).join = some (newBytes [97]) := by rw [hE, ← hDl]; simp
    have hE1 : (E[1]?).join = some (newBytes as10) := by rw [hE, join_app (by omega)]; exact hD1
    have sm := same_few (o := 0) (e := 1) (n := 1) (c := 1) (f := true) hE4
    have z1 : (storedB [97]).length = 6 := by rw [stored_last (by decide), blk_len]; rfl
    have c7 := hS E (.slice (some (4, 0)) 1 1 1 true) _ (good_own hE4) (look_own hE4 (by decide) (by decide) (by decide)) (by decide)
    obtain ⟨F, hF⟩ : ∃ F, F = E ++ [some (newBytes (storedB [97]))] := ⟨_, rfl⟩
    have c7 : nilCall call0 nS [.slice (some (4, 0)) 1 1 1 true] (few E) = some (.slice (some (5, 0)) 1 6 6 false, few F) := by
      show call0 nS [.slice (some (4, 0)) 1 1 1 true] (few E) = _
      rw [c7, hF, hEl]
      show some (V.slice (some (5, 0)) 1 (storedB [97]).length (storedB [97]).length false, _) = _
      rw [z1]
      rfl
    have hFl : F.length = 6 := by rw [hF, List.length_append, hEl]; rfl
    have hF5 : (F[5]?).join = some (newBytes (storedB [97])) := by rw [hF, ← hEl]; simp
    have hF1 : (F[1]?).join = some (newBytes as10) := by rw [hF, join_app (by omega)]; exact hE1
    have lb : ∀ b ∈ storedB [97], b < 256 := stored_lt _ _ (Nat.le_refl _) (by decide)
    have lk := look_own (m := 6) (c := 6) (f := false) hF5 lb (by decide) (by omega)
    rw [List.take_of_length_le (by omega)] at lk
    have c8 : nilCall call0 nI [.slice (some (5, 0)) 1 6 6 false, .int .i64 (-5)] (few F) = some (.tuple [.slice none 0 0 0 true, .int .i64 0, .int .i64 4], few F) :=
      err (e := 4) (good_own hF5) lk (inflL_stored (by decide) (by decide) (storedB_ne _) (by omega) (infl_big (rest := []) _ 0 [] [97] (by rw [z1]; decide) (by rw [List.drop_zero, List.append_nil]) (by decide)))
    obtain ⟨G, hG⟩ : ∃ G, G = F ++ [some (newBytes [3, 2, 0])] := ⟨_, rfl⟩
    have hGl : G.length = 7 := by rw [hG, List.length_append, hFl]; rfl
    have al5 : (few F).alloc (.cells true [.int .u8 3, .int .u8 2, .int .u8 0]) = some (6, few G) := by rw [hG, few_alloc, hFl]; rfl
    have hG6 : (G[6]?).join = some (newBytes [3, 2, 0]) := by rw [hG, ← hFl]; simp
    have hG1 : (G[1]?).join = some (newBytes as10) := by rw [hG, join_app (by omega)]; exact hF1
    have c9 : nilCall call0 nI [.slice (some (6, 0)) 1 3 3 true, .int .i64 100] (few G) = some (.tuple [.slice none 0 0 0 true, .int .i64 0, .int .i64 2], few G) :=
      err (e := 2) (good_own hG6) (look_own hG6 (by decide) (by decide) (by decide)) rfl
    -- the long one
    obtain ⟨m, hm⟩ : ∃ m : Nat, m = 65536 := ⟨_, rfl⟩
    obtain ⟨Z, hZ⟩ : ∃ Z, Z = List.replicate m 0 := ⟨_, rfl⟩
    have hZl : Z.length = m := by rw [hZ, List.length_replicate]
    have hZb : ∀ b ∈ Z, b < 256 := fun b hb => by rw [hZ] at hb; rw [List.eq_of_mem_replicate hb]; omega
    have mk := mks_few (os := G) (m := m) (by omega)
    obtain ⟨H, hH⟩ : ∃ H, H = G ++ [some (newBytes Z)] := ⟨_, rfl⟩
    rw [← hZ, ← hH, hGl] at mk
    have hHl : H.length = 8 := by rw [hH, List.length_append, hGl]; rfl
    have hH7 : (H[7]?).join = some (newBytes Z) := by rw [hH, ← hGl]; simp
    have hH1 : (H[1]?).join = some (newBytes as10) := by rw [hH, join_app (by omega)]; exact hG1
    have lkH := look_own (m := m) (c := m) (f := true) hH7 hZb (Nat.le_refl _) (by omega)
    rw [List.take_of_length_le (by omega)] at lkH
    have z2 : (storedB Z).length = 65546 := by
      rw [stored_more (by omega), List.length_append, blk_len, List.length_take, stored_last (by rw [List.length_drop]; omega), blk_len, List.length_drop, hZl, hm]
      rfl
    have d1 := hS H (.slice (some (7, 0)) 1 m m true) _ (good_own hH7) lkH (by omega)
    obtain ⟨I, hI'⟩ : ∃ I, I = H ++ [some (newBytes (storedB Z))] := ⟨_, rfl⟩
    have d1 : nilCall call0 nS [.slice (some (7, 0)) 1 m m true] (few H) = some (.slice (some (8, 0)) 1 65546 65546 false, few I) := by
      show call0 nS [.slice (some (7, 0)) 1 m m true] (few H) = _
      rw [d1, z2, hHl, hI']
    have hIl : I.length = 9 := by rw [hI', List.length_append, hHl]; rfl
    have hI8 : (I[8]?).join = some (newBytes (storedB Z)) := by rw [hI', ← hHl]; simp
    have hI1 : (I[1]?).join = some (newBytes as10) := by rw [hI', join_app (by omega)]; exact hH1
    have lkI := look_own (m := 65546) (c := 65546) (f := false) hI8 (stored_lt _ _ (Nat.le_refl _) hZb) (Nat.le_refl _) (by omega)
    rw [List.take_of_length_le (by omega)] at lkI
    have r := infl_ok (bs := storedB Z) (rest := []) (lim := (max 0 (65536 : Int)).toNat) ((storedB Z).length + 1) 0 [] Z (by omega) (by rw [List.drop_zero, List.append_nil]) (by rw [hZl, hm]; decide)
    rw [List.nil_append, Nat.zero_add] at r
    have d2 := hI I (.slice (some (8, 0)) 1 65546 65546 false) _ 65536 _ (good_own hI8) lkI (inflL_stored (by decide) (by decide) (storedB_ne _) (by omega) r)
    rw [(inflA_r Z _ I.length).1, (inflA_r Z _ 0).2, z2] at d2
    obtain ⟨J, hJ⟩ : ∃ J, J = I ++ outO Z := ⟨_, rfl⟩
    rw [← hJ] at d2
    have hZ0 : Z ≠ [] := fun e => by rw [e] at hZl; simp at hZl; omega
    have oV : outV Z I.length = .slice (some (9, 0)) 1 m m false := by
      unfold outV
      rw [if_neg hZ0, hIl, hZl]
    rw [oV] at d2
    have d2 : nilCall call0 nI [.slice (some (8, 0)) 1 65546 65546 false, .int .i64 65536] (few I) = some (.tuple [.slice (some (9, 0)) 1 m m false, .int .i64 65546, .int .i64 0], few J) := d2
    have hJ1 : (J[1]?).join = some (newBytes as10) := by rw [hJ, join_app (by omega)]; exact hI1
    have k1 : nilCall call0 nK [] (few J) = some (.bool true, few J) := hK _
    have sv : convV (few J) .toStr (.slice (some (1, 0)) 1 10 10 false) = some (.str as10) := bytes_str (lookB_at (look_own (m := 10) (c := 10) (f := false) hJ1 (by decide) (by decide) (by decide)))
    have d3 := hS J (slOf true []) [] rfl rfl (by decide)
    have z3 : (storedB []).length = 5 := by rw [stored_last (by decide), blk_len]; rfl
    rw [z3] at d3
    have d3 : nilCall call0 nS [.slice none 0 0 0 true] (few J) = some (.slice (some (J.length, 0)) 1 5 5 false, few (J ++ [some (newBytes (storedB []))])) := d3
    have dm : decide ((m : Int) = 65536) = true := decide_eq_true (by omega)
    have sv : convV (few J) .toStr (.slice (some (1, 0)) 1 10 10 false) = some (.str [97, 97, 97, 97, 97, 97, 97, 97, 97, 97]) := sv
    unfold FlateKnown_c
    dsimp only
    have hn : natOf (.int .i64 65536) = some m := by rw [hm]; rfl
    simp (disch := omega) [al1, c1, c2, sl, c3, c4, al2, c5, al3, c6, al4, step_convSame, sm, c7, c8, al5, c9, step_mkslice, hn, mk, d1, d2, k1, sv, d3, dm]

end Go.Vabs.Sl
