/-
  An inflater of stored blocks.
-/
import Derived.Test.YtkcjhakjelidgaaVabsSh
namespace Go.Vabs.Sj
set_option linter.unusedVariables false
set_option linter.unusedSimpArgs false
set_option maxRecDepth 10000
attribute [local simp] wp_skip wp_ret wp_exit wp_reg wp_seq wp_cond wp_block thenQ_normal thenQ_ret thenQ_exit blockQ_normal blockQ_ret blockQ_exit wpCond_true wpCond_false wpOps_nil wpVal_some wpGuard_true wpGuard_false wpOps_guard wpOps_cons
  put_at put_no ev_c ev_slot posEq_h posEq_o posEq_i posEq_ho posEq_hi posEq_oh posEq_ih posEq_oi posEq_io sel_true sel_false
  okv_some step_mv step_call step_pick pickV_bool step_bin bin_add bin_sub bin_mul bin_eql bin_neq bin_lss bin_leq bin_gtr bin_geq bin_eqb bin_neb bin_eqs bin_nes step_un un_not un_neg step_len len_slice len_str len_const step_extract extractV nth step_convInt conv_int step_convStr step_slice step_idxAddr natOf_nat step_load step_index step_field step_fieldAddr step_build step_minmax
  step_alloc step_bslice bsliceV_some newV_some step_store step_append boolIs_b boolIs_t finQ_ret finQ_normal ressE_nil ressE_cons resE_tmp consO_some initE_nil initE_cons pos_0 pos_1 pos_2 pos_3 pos_4 pos_5 pos_6 pos_7 pos_8 plain_bool plain_int plain_str plain_ptr plain_slice plain_map plain_agg plain_func plain_nilFunc V.undef oneOf_one oneOf_two ble_self
open Go.Vabs.Pk Go.Vabs.Ph Go.Vabs.Fb Go.Vabs.Sa Go.Vabs.Sb Go.Vabs.Sc Go.Vabs.Sg Go.Vabs.Sh Go.Vabs.Si
attribute [local simp] step_nilchk nilchk_ptr step_box cells_int cells_bool cells_str cells_slice cells_ptr cells_agg fieldAddrV natOf_zero fill repN splice over newV
  wp_dreg wpDs_nil wpDs_cons wantedE_none wantedE_some wpDGuard_true wpDGuard_lim wpDGuard_false wpDLim_true wpDVal_free wpDVal_lim back_limited next_limited limF_dir limF_false foot_load foot_convStr okAll_nil okAll_cons pastsOf nthP ahead few_next load_limited okPair_dd okPair_dc okPair_cd okPair_cc anyIn_nil anyIn_same anyIn_cons meets_nil meets_nil' blt_dec
/- BITS OF WHOLE BYTES -/
theorem take_add (bs : List Nat) (p n : Nat) : ∀ m, takeB bs p (n + m) = takeB bs p n + takeB bs (p + n) m * 2 ^ n
  | 0 => by simp [takeB]
  | m + 1 => by
    show takeB bs p (n + m) + bitN bs (p + (n + m)) * 2 ^ (n + m) = takeB bs p n + (takeB bs (p + n) m + bitN bs (p + n + m) * 2 ^ m) * 2 ^ n
    rw [take_add bs p n m, Nat.add_mul, Nat.pow_add, Nat.add_assoc p n m, Nat.mul_assoc, Nat.mul_comm (2 ^ m) (2 ^ n), Nat.add_assoc]
theorem take_8 {bs : List Nat} (hb : ∀ q, byteN bs q < 256) (q : Nat) : takeB bs (8 * q) 8 = byteN bs q := by
  have h := hb q
  simp only [takeB, bitN, Nat.add_zero, show 8 * q / 8 = q from by omega, show (8 * q + 1) / 8 = q from by omega, show (8 * q + 2) / 8 = q from by omega, show (8 * q + 3) / 8 = q from by omega, show (8 * q + 4) / 8 = q from by omega, show (8 * q + 5) / 8 = q from by omega, show (8 * q + 6) / 8 = q from by omega, show (8 * q + 7) / 8 = q from by omega,
    show 8 * q % 8 = 0 from by omega, show (8 * q + 1) % 8 = 1 from by omega, show (8 * q + 2) % 8 = 2 from by omega, show (8 * q + 3) % 8 = 3 from by omega, show (8 * q + 4) % 8 = 4 from by omega, show (8 * q + 5) % 8 = 5 from by omega, show (8 * q + 6) % 8 = 6 from by omega, show (8 * q + 7) % 8 = 7 from by omega]
  omega
theorem take_16 {bs : List Nat} (hb : ∀ q, byteN bs q < 256) (q : Nat) : takeB bs (8 * q) 16 = byteN bs q + byteN bs (q + 1) * 256 := by
  have := take_add bs (8 * q) 8 8
  rw [take_8 hb, show 8 * q + 8 = 8 * (q + 1) from by omega, take_8 hb] at this
  exact this
theorem take_1 {bs : List Nat} (q : Nat) : takeB bs (8 * q) 1 = byteN bs q % 2 := by
  simp only [takeB, bitN, Nat.add_zero, show 8 * q / 8 = q from by omega, show 8 * q % 8 = 0 from by omega]
  omega
theorem take_2 {bs : List Nat} (q : Nat) : takeB bs (8 * q + 1) 2 = byteN bs q / 2 % 4 := by
  simp only [takeB, bitN, Nat.add_zero, show (8 * q + 1) / 8 = q from by omega, show (8 * q + 1) % 8 = 1 from by omega, show (8 * q + 1 + 1) / 8 = q from by omega, show (8 * q + 1 + 1) % 8 = 2 from by omega]
  omega
theorem xor_16 {n : Nat} (h : n < 65536) : n ^^^ (65535 - n) = 65535 := by
  apply Nat.eq_of_testBit_eq
  intro i
  rw [Nat.testBit_xor, show 65535 - n = 2 ^ 16 - (n + 1) from by omega, Nat.testBit_two_pow_sub_succ (show n < 2 ^ 16 from h), show (65535 : Nat) = 2 ^ 16 - 1 from rfl, Nat.testBit_two_pow_sub_one]
  by_cases hi : i < 16
  · simp [hi]
  · have : n.testBit i = false := Nat.testBit_lt_two_pow (Nat.lt_of_lt_of_le (show n < 2 ^ 16 from h) (Nat.pow_le_pow_right (by omega) (by omega)))
    simp [hi, this]
theorem bin_xorN {eq : EqKind} {a b : Nat} (ha : a < 9223372036854775808) (hb : b < 9223372036854775808) : binV .xor eq (.int .i64 (a : Int)) (.int .i64 (b : Int)) = some (.int .i64 ((a ^^^ b : Nat) : Int)) := by
  simp only [binV, if_true, arith]
  show (match sel (Nat.blt a 9223372036854775808 && Nat.blt b 9223372036854775808) (some (Int.ofNat (Nat.xor a b))) _ with | some r => some (V.int .i64 r) | none => none) = _
  rw [blt_t ha, blt_t hb]
  rfl
theorem xor_65535 {eq : EqKind} {n m : Nat} (h : n + m = 65535) : binV .xor eq (.int .i64 (n : Int)) (.int .i64 (m : Int)) = some (.int .i64 65535) := by
  rw [bin_xorN (by omega) (by omega), show m = 65535 - n from by omega, xor_16 (by omega)]
  rfl
/- AN INFLATER IN MEMORY -/
structure IA (os os' : List (Option AObj)) (c R X : Nat) (sv ov : V) (bs : List Nat) (p : Nat) (d : List Nat) (lim : Nat) : Prop where
  hRX : R < X
  hN : os.length ≤ R
  old : ∀ i, i < os.length → (os'[i]?).join = (os[i]?).join
  len : os.length ≤ os'.length
  hcR : c ≠ R
  hcX : c < X
  svl : ∀ st, lenV st .slice sv = some (.int .i64 (bs.length : Int))
  svi : ∀ q, q < bs.length → idxAddrV (.slice 1) sv (some q) = some (.ptr (some (c, q)))
  svb : ∀ q, q < bs.length → ∃ own cs, (os'[c]?).join = some (.cells own cs) ∧ cs[q]? = some (.int .u8 (byteN bs q : Int))
  hb : ∀ q, byteN bs q < 256
  atR : (os'[R]?).join = some (.cells true [sv, .int .i64 (p : Int)])
  atX : (os'[X]?).join = some (.cells true [.ptr (some (R, 0)), ov, .int .i64 (lim : Int)])
  out : OutAt os' (X + 1) ov d
noncomputable def memB (os' : List (Option AObj)) (R : Nat) (sv : V) (p : Int) : St := few (os'.set R (some (.cells true [sv, .int .i64 p])))
section
variable {os os' : List (Option AObj)} {c R X : Nat} {sv ov : V} {bs : List Nat} {p : Nat} {d : List Nat} {lim : Nat}
theorem IA.rd (h : IA os os' c R X sv ov bs p d lim) : Fb.Rd (memB os' R sv) R c sv bs := by
  have hR := join_lt h.atR
  have hat : ∀ p, ((os'.set R (some (AObj.cells true [sv, .int .i64 p])))[R]?).join = some (.cells true [sv, .int .i64 p]) := fun p => join_set_same hR
  refine ⟨fun p => (load_few (hat p)).trans rfl, fun p => (load_few (hat p)).trans rfl, fun p q => ?_, h.svl, h.svi, fun p q hq => ?_, h.hb⟩
  · unfold memB
    rw [store_few (hat p) (by simp)]
    simp
  · obtain ⟨own, cs, h1, h2⟩ := h.svb q hq
    exact (load_few (own := own) (cs := cs) (by rw [join_set (Ne.symm h.hcR)]; exact h1)).trans h2
theorem IA.mem (h : IA os os' c R X sv ov bs p d lim) : memB os' R sv (p : Int) = few os' := by
  unfold memB
  have hR := join_lt h.atR
  have e : os'[R]? = some (some (.cells true [sv, .int .i64 (p : Int)])) := by
    have := h.atR
    rw [List.getElem?_eq_getElem hR] at this ⊢
    exact congrArg some this
  congr 1
  apply List.ext_getElem?
  intro i
  by_cases hi : R = i
  · subst hi
    rw [List.getElem?_set_self hR, e]
  · rw [List.getElem?_set_ne hi]
theorem IA.move (h : IA os os' c R X sv ov bs p d lim) (p' : Nat) : IA os (os'.set R (some (.cells true [sv, .int .i64 (p' : Int)]))) c R X sv ov bs p' d lim := by
  have hR := join_lt h.atR
  have hRX := h.hRX
  have hN := h.hN
  refine ⟨h.hRX, h.hN, fun i hi => ?_, by rw [List.length_set]; exact h.len, h.hcR, h.hcX, h.svl, h.svi, fun q hq => ?_, h.hb, join_set_same hR, ?_, ?_⟩
  · rw [join_set (by omega)]; exact h.old i hi
  · rw [join_set (Ne.symm h.hcR)]; exact h.svb q hq
  · rw [join_set (by omega)]; exact h.atX
  · rcases h.out with h1 | ⟨q, h1, h2, h3⟩
    · exact .inl h1
    · exact .inr ⟨q, h1, h2, by rw [join_set (by omega)]; exact h3⟩
theorem IA.take {call : CallT} {nT m : Nat} (hT : TakeF call nT) (h : IA os os' c R X sv ov bs p d lim) (hl : bs.length ≤ 140737488351232) (hm : m ≤ 24) (hn : p + m ≤ 8 * bs.length) :
    ∃ os2, call nT [.ptr (some (R, 0)), .int .i64 (m : Int)] (few os') = some (.tuple [.int .i64 (takeB bs p m : Int), .bool true], few os2) ∧ IA os os2 c R X sv ov bs (p + m) d lim := by
  refine ⟨_, ?_, h.move (p + m)⟩
  have := (hT (memB os' R sv) R c sv bs p (m : Int) h.rd (by omega) hl).2 m (by unfold mmI; omega) hm hn
  rw [h.mem] at this
  exact this
theorem IA.short {call : CallT} {nT m : Nat} (hT : TakeF call nT) (h : IA os os' c R X sv ov bs p d lim) (hl : bs.length ≤ 140737488351232) (hm : m ≤ 24) (hp : p ≤ 8 * bs.length) (hn : 8 * bs.length < p + m) :
    call nT [.ptr (some (R, 0)), .int .i64 (m : Int)] (few os') = some (.tuple [.int .i64 0, .bool false], few os') := by
  have := (hT (memB os' R sv) R c sv bs p (m : Int) h.rd hp hl).1 (by unfold mmI; omega)
  rw [h.mem] at this
  exact this
theorem IA.used {call : CallT} {nU : Nat} (hU : UsedF call nU) (h : IA os os' c R X sv ov bs p d lim) (hl : bs.length ≤ 140737488351232) (hp : p ≤ 8 * bs.length) :
    call nU [.ptr (some (R, 0))] (few os') = some (.int .i64 (((p + 7) / 8 : Nat) : Int), few os') := by
  have := hU (memB os' R sv) R c sv bs p h.rd hp hl
  rw [h.mem] at this
  exact this
theorem IA.align {call : CallT} {nA : Nat} (hA : AlignF call nA) (h : IA os os' c R X sv ov bs p d lim) (hl : bs.length ≤ 140737488351232) (hp : p ≤ 8 * bs.length) :
    ∃ os2, call nA [.ptr (some (R, 0))] (few os') = some (.tuple [], few os2) ∧ IA os os2 c R X sv ov bs ((p + 7) / 8 * 8) d lim := by
  refine ⟨_, ?_, h.move ((p + 7) / 8 * 8)⟩
  have := hA (memB os' R sv) R c sv bs p h.rd hp hl
  rw [h.mem] at this
  exact this
/-- put. -/
theorem OutAt.lenOf (h : OutAt os' X ov d) : ∀ st, lenV st .slice ov = some (.int .i64 (d.length : Int)) := by
  rcases h with ⟨rfl, rfl⟩ | ⟨q, _, rfl, _⟩ <;> exact fun _ => rfl
theorem OutAt.cells (h : OutAt os' X ov d) : ov.cells = some [ov] := by
  rcases h with ⟨rfl, rfl⟩ | ⟨q, _, rfl, _⟩ <;> rfl
theorem put_big {call : CallT} {lf : Nat} (h : IA os os' c R X sv ov bs p d lim) (hd : lim ≤ d.length) (hdl : d.length < 9223372036854775808) {b : Nat} : enterF call lf [.ptr (some (X, 0)), .int .u8 (b : Int)] (few os') iput_c = some (.int .i64 4, few os') := by
  have l1 : loadV (few os') false 1 (.ptr (some (X, 1))) = some ov := (load_few h.atX).trans rfl
  have l2 : loadV (few os') false 1 (.ptr (some (X, 2))) = some (.int .i64 (lim : Int)) := (load_few h.atX).trans rfl
  have hl := OutAt.lenOf h.out
  obtain ⟨n, hn⟩ : ∃ n, n = d.length := ⟨_, rfl⟩
  rw [← hn] at hl hd
  refine enter_eq ?_
  simp (disch := omega) [l1, l2, hl, dlen_t]
theorem put_yes {call : CallT} {lf : Nat} (h : IA os os' c R X sv ov bs p d lim) (hd : d.length < lim) (hdl : d.length + 1 < 70368744177664) {b : Nat} (hb : b < 256) :
    ∃ os2 ov2, enterF call lf [.ptr (some (X, 0)), .int .u8 (b : Int)] (few os') iput_c = some (.int .i64 0, few os2) ∧ IA os os2 c R X sv ov2 bs p (d ++ [b]) lim := by
  have l1 : loadV (few os') false 1 (.ptr (some (X, 1))) = some ov := (load_few h.atX).trans rfl
  have l2 : loadV (few os') false 1 (.ptr (some (X, 2))) = some (.int .i64 (lim : Int)) := (load_few h.atX).trans rfl
  have hl := OutAt.lenOf h.out
  have hX := join_lt h.atX
  have hRX := h.hRX
  obtain ⟨A, hA⟩ : ∃ A, A = os' ++ [some (newBytes [b])] := ⟨_, rfl⟩
  have hAl : A.length = os'.length + 1 := by rw [hA]; simp
  have hAo : ∀ i, i < os'.length → (A[i]?).join = (os'[i]?).join := fun i hi => by rw [hA, join_app hi]
  have alA : (few os').alloc (.cells true [.int .u8 (b : Int)]) = some (os'.length, few A) := by
    rw [hA, few_alloc]; rfl
  have hAp : (A[os'.length]?).join = some (newBytes [b]) := by rw [hA]; simp
  have hfb : firstN (few A) 1 1 (.slice (some (os'.length, 0)) 1 1 1 true) = some (bytesV [b]) := by
    show sel (Nat.beq 1 1 && Nat.ble 1 1) ((few A).loadN _ _ (1 * 1)) none = _
    rw [loadN_few hAp (by rw [bytesV_len]; simp), List.drop_zero]
    rfl
  have hXA : (A[X]?).join = some (.cells true [.ptr (some (R, 0)), ov, .int .i64 (lim : Int)]) := by rw [hAo X hX]; exact h.atX
  have l3 : loadV (few A) false 1 (.ptr (some (X, 1))) = some ov := (load_few hXA).trans rfl
  have hoA : OutAt A (X + 1) ov d := by rw [hA]; exact h.out.app
  obtain ⟨v', os2, g1, g2, g3, g4⟩ := hoA.grow (nb := [b]) (by omega) (by simpa using hdl)
  have g1 : appendV (few A) 1 1 ov (some 1) (some (bytesV [b])) = some (v', few os2) := g1
  have hX2 : (os2[X]?).join = some (.cells true [.ptr (some (R, 0)), ov, .int .i64 (lim : Int)]) := by rw [g3 X (by omega)]; exact hXA
  have l4 : loadV (few os2) false 1 (.ptr (some (X, 1))) = some ov := (load_few hX2).trans rfl
  have hX2l := join_lt hX2
  have hst : storeV (few os2) 1 (.ptr (some (X, 1))) (some [v']) = some (V.undef, few (os2.set X (some (.cells true [.ptr (some (R, 0)), v', .int .i64 (lim : Int)])))) := by
    rw [store_few hX2 (by simp)]; rfl
  have hcl := OutAt.cells g2
  obtain ⟨n, hn⟩ : ∃ n, n = d.length := ⟨_, rfl⟩
  rw [← hn] at hl hd
  refine ⟨os2.set X (some (.cells true [.ptr (some (R, 0)), v', .int .i64 (lim : Int)])), v', ?_, ?_⟩
  · refine enter_eq ?_
    simp (disch := omega) [l1, l2, hl, dlen_f, alA, l3, lenOf, firstNo, hfb, g1, hcl, hst]
  · have hN := h.hN
    have hset : ∀ i, i ≠ X → i < X + 1 → ((os2.set X (some (AObj.cells true [.ptr (some (R, 0)), v', .int .i64 (lim : Int)])))[i]?).join = (os'[i]?).join := fun i hi hi2 => by
      rw [join_set (Ne.symm hi), g3 i hi2, hAo i (by omega)]
    refine ⟨h.hRX, h.hN, fun i hi => ?_, by rw [List.length_set]; have := h.len; omega, h.hcR, h.hcX, h.svl, h.svi, fun q hq => ?_, h.hb, ?_, join_set_same hX2l, ?_⟩
    · rw [hset i (by omega) (by omega)]; exact h.old i hi
    · have := h.hcX
      rw [hset c (by omega) (by omega)]; exact h.svb q hq
    · rw [hset R (by omega) (by omega)]; exact h.atR
    · rcases g2 with h1 | ⟨q, h1, h2, h3⟩
      · exact .inl h1
      · exact .inr ⟨q, h1, h2, by rw [join_set (by omega)]; exact h3⟩
end
def PutF (call : CallT) (g : Nat) : Prop := ∀ os os' c R X sv ov bs p d lim (b : Nat), IA os os' c R X sv ov bs p d lim → d.length + 1 < 70368744177664 → b < 256 →
  (lim ≤ d.length → call g [.ptr (some (X, 0)), .int .u8 (b : Int)] (few os') = some (.int .i64 4, few os')) ∧
  (d.length < lim → ∃ os2 ov2, call g [.ptr (some (X, 0)), .int .u8 (b : Int)] (few os') = some (.int .i64 0, few os2) ∧ IA os os2 c R X sv ov2 bs p (d ++ [b]) lim)
theorem PutF.code {base : CallT} {g lf : Nat} : PutF (Vabs.withF base g lf iput_c) g := fun os os' c R X sv ov bs p d lim b h hd hb =>
  ⟨fun hl => by rw [withF_same]; exact put_big h hl (by omega), fun hl => by rw [withF_same]; exact put_yes h hl hd hb⟩
/-- The numbers of a block's head. -/
def nA (bs : List Nat) (a : Nat) : Nat := byteN bs a + byteN bs (a + 1) * 256
theorem take_snoc {bs : List Nat} {a i : Nat} (h : a + i < bs.length) : (bs.drop a).take (i + 1) = (bs.drop a).take i ++ [byteN bs (a + i)] := by
  rw [List.take_add_one, List.getElem?_drop, List.getElem?_eq_getElem h]
  unfold byteN
  rw [List.getD_eq_getElem?_getD, List.getElem?_eq_getElem h]
  rfl
set_option maxHeartbeats 1000000 in
theorem stored_run {call : CallT} {lf nAl nT nP : Nat} (hlf : 65537 ≤ lf) (hA : AlignF call nAl) (hT : TakeF call nT) (hP : PutF call nP) {os os' : List (Option AObj)} {c R X : Nat} {sv ov : V} {bs : List Nat} {q : Nat} {d : List Nat} {lim : Nat}
    (h : IA os os' c R X sv ov bs (8 * q + 3) d lim) (hq : q < bs.length) (hl : bs.length + d.length ≤ 35184372088832) (hform : q + 5 ≤ bs.length → nA bs (q + 1) + nA bs (q + 3) = 65535) :
    ∃ w st, enterF call lf [.ptr (some (X, 0))] (few os') (istored_c nAl nT nP) = some (w, st) ∧
      (bs.length < q + 5 → w = .int .i64 3) ∧
      (q + 5 ≤ bs.length →
        (nA bs (q + 1) ≤ bs.length - (q + 5) ∧ nA bs (q + 1) ≤ lim - d.length → w = .int .i64 0 ∧ ∃ os2 ov2, st = few os2 ∧ IA os os2 c R X sv ov2 bs (8 * (q + 5 + nA bs (q + 1))) (d ++ (bs.drop (q + 5)).take (nA bs (q + 1))) lim) ∧
        (¬ (nA bs (q + 1) ≤ bs.length - (q + 5) ∧ nA bs (q + 1) ≤ lim - d.length) → w = .int .i64 (if bs.length - (q + 5) ≤ lim - d.length then 3 else 4))) := by
  obtain ⟨n, hn⟩ : ∃ n, n = nA bs (q + 1) := ⟨_, rfl⟩
  obtain ⟨m, hm⟩ : ∃ m, m = nA bs (q + 3) := ⟨_, rfl⟩
  rw [← hn, ← hm] at hform
  rw [← hn]
  have main := enter_wp (call := call) (lf := lf) (n := 64) (args := [.ptr (some (X, 0))]) (st := few os') (K := fun w st => (bs.length < q + 5 → w = .int .i64 3) ∧
      (q + 5 ≤ bs.length →
        (n ≤ bs.length - (q + 5) ∧ n ≤ lim - d.length → w = .int .i64 0 ∧ ∃ os2 ov2, st = few os2 ∧ IA os os2 c R X sv ov2 bs (8 * (q + 5 + n)) (d ++ (bs.drop (q + 5)).take n) lim) ∧
        (¬ (n ≤ bs.length - (q + 5) ∧ n ≤ lim - d.length) → w = .int .i64 (if bs.length - (q + 5) ≤ lim - d.length then 3 else 4)))) (c := (istored_c nAl nT nP).code) (rs := (istored_c nAl nT nP).results) ?_
  · obtain ⟨w, st', h1, h2⟩ := main
    exact ⟨w, st', h1, h2⟩
  · unfold istored_c
    dsimp only
    have hXp : ∀ {os'' : List (Option AObj)} {ov p d}, IA os os'' c R X sv ov bs p d lim → loadV (few os'') false 1 (.ptr (some (X, 0))) = some (.ptr (some (R, 0))) := fun h => (load_few h.atX).trans rfl
    obtain ⟨os1, a1, h1⟩ := h.align hA (by omega) (by omega)
    rw [show (8 * q + 3 + 7) / 8 * 8 = 8 * (q + 1) from by omega] at h1
    by_cases s1 : bs.length < q + 3
    · have t1 := h1.short (m := 16) hT (by omega) (by omega) (by omega) (by omega)
      have t1 : call nT [.ptr (some (R, 0)), .int .i64 16] (few os1) = some (.tuple [.int .i64 0, .bool false], few os1) := t1
      simp (disch := omega) [hXp h, hXp h1, a1, t1]
      exact fun h => absurd h (by omega)
    obtain ⟨os2, t1, h2⟩ := h1.take (m := 16) hT (by omega) (by omega) (by omega)
    rw [take_16 h.hb, show byteN bs (q + 1) + byteN bs (q + 1 + 1) * 256 = n from by rw [hn]; rfl] at t1
    rw [show 8 * (q + 1) + 16 = 8 * (q + 3) from by omega] at h2
    have t1 : call nT [.ptr (some (R, 0)), .int .i64 16] (few os1) = some (.tuple [.int .i64 (n : Int), .bool true], few os2) := t1
    by_cases s2 : bs.length < q + 5
    · have t2 := h2.short (m := 16) hT (by omega) (by omega) (by omega) (by omega)
      have t2 : call nT [.ptr (some (R, 0)), .int .i64 16] (few os2) = some (.tuple [.int .i64 0, .bool false], few os2) := t2
      simp (disch := omega) [hXp h, hXp h1, hXp h2, a1, t1, t2]
      exact fun h => absurd h (by omega)
    obtain ⟨os3, t2, h3⟩ := h2.take (m := 16) hT (by omega) (by omega) (by omega)
    rw [take_16 h.hb, show byteN bs (q + 3) + byteN bs (q + 3 + 1) * 256 = m from by rw [hm]; rfl] at t2
    rw [show 8 * (q + 3) + 16 = 8 * (q + 5) from by omega] at h3
    have t2 : call nT [.ptr (some (R, 0)), .int .i64 16] (few os2) = some (.tuple [.int .i64 (m : Int), .bool true], few os3) := t2
    have hbn : ∀ q, byteN bs q < 256 := h.hb
    have hn16 : n < 65536 := by
      have e1 := hbn (q + 1)
      have e2 := hbn (q + 1 + 1)
      rw [hn]; unfold nA; omega
    have hm16 : m < 65536 := by
      have e1 := hbn (q + 3)
      have e2 := hbn (q + 3 + 1)
      rw [hm]; unfold nA; omega
    have s3 := hform (by omega)
    have hx := xor_65535 (eq := .val .int) s3
    simp (disch := omega) [hXp h, hXp h1, hXp h2, a1, t1, t2, hx]
    refine wp_loop (fun k s st => ∃ i os4 ov4, i + k = n ∧ st = few os4 ∧ i ≤ bs.length - (q + 5) ∧ i ≤ lim - d.length ∧ IA os os4 c R X sv ov4 bs (8 * (q + 5 + i)) (d ++ (bs.drop (q + 5)).take i) lim ∧ s .h = .ptr (some (X, 0)) ∧ s (.o (.o (.i (.i (.o .h))))) = .int .i64 (n : Int) ∧ s (.i (.o (.i (.i (.o .h))))) = .int .i64 (i : Int)) n ?_ (by omega) ?_
    · refine ⟨0, os3, ov, by omega, rfl, by omega, by omega, ?_, ?_, ?_, ?_⟩
      · simpa using h3
      all_goals simp
    · rintro k s st ⟨i, os4, ov4, hi, rfl, hi1, hi2, h4, r1, r2, r3⟩
      have hdl : (d ++ (bs.drop (q + 5)).take i).length = d.length + i := by rw [List.length_append, List.length_take, List.length_drop]; omega
      cases k with
      | zero =>
        have hin : i = n := by omega
        subst hin
        simp (disch := omega) [r1, r2, r3, dltn_f]
        exact ⟨by omega, fun _ => ⟨fun _ _ => ⟨os4, rfl, ov4, h4⟩, fun h => absurd (h hi1) (by omega)⟩⟩
      | succ k =>
        by_cases e1 : bs.length ≤ q + 5 + i
        · have t3 := h4.short (m := 8) hT (by omega) (by omega) (by omega) (by omega)
          have t3 : call nT [.ptr (some (R, 0)), .int .i64 8] (few os4) = some (.tuple [.int .i64 0, .bool false], few os4) := t3
          simp (disch := omega) [r1, r2, r3, dltn_t, hXp h4, t3]
          omega
        · obtain ⟨os5, t3, h5⟩ := h4.take (m := 8) hT (by omega) (by omega) (by omega)
          rw [take_8 h.hb] at t3
          obtain ⟨b, hbe⟩ : ∃ b, b = byteN bs (q + 5 + i) := ⟨_, rfl⟩
          have hb : b < 256 := by rw [hbe]; exact hbn _
          rw [← hbe] at t3
          have t3 : call nT [.ptr (some (R, 0)), .int .i64 8] (few os4) = some (.tuple [.int .i64 (b : Int), .bool true], few os5) := t3
          have w8 : wrapV .u8 (b : Int) = (b : Int) := wrap_u8 hb
          obtain ⟨p1, p2⟩ := hP os os5 c R X sv ov4 bs _ _ lim b h5 (by omega) hb
          by_cases e2 : lim ≤ d.length + i
          · have p1 := p1 (by omega)
            simp (disch := omega) [r1, r2, r3, dltn_t, hXp h4, t3, w8, p1]
            omega
          · obtain ⟨os6, ov6, p2, h6⟩ := p2 (by omega)
            simp (disch := omega) [r1, r2, r3, dltn_t, hXp h4, t3, w8, p2, wrap_i]
            refine ⟨k, by omega, i + 1, by omega, os6, rfl, by omega, by omega, ⟨ov6, ?_⟩, by omega⟩
            rw [take_snoc (by omega), ← hbe, ← List.append_assoc, show 8 * (q + 5 + (i + 1)) = 8 * (q + 5 + i) + 8 from by omega]
            exact h6

/- A BLOCK -/
def StoredF (call : CallT) (g : Nat) : Prop := ∀ (os os' : List (Option AObj)) (c R X : Nat) (sv ov : V) (bs : List Nat) (q : Nat) (d : List Nat) (lim : Nat), IA os os' c R X sv ov bs (8 * q + 3) d lim → q < bs.length → bs.length + d.length ≤ 35184372088832 → (q + 5 ≤ bs.length → nA bs (q + 1) + nA bs (q + 3) = 65535) →
    ∃ w st, call g [.ptr (some (X, 0))] (few os') = some (w, st) ∧
      (bs.length < q + 5 → w = .int .i64 3) ∧
      (q + 5 ≤ bs.length →
        (nA bs (q + 1) ≤ bs.length - (q + 5) ∧ nA bs (q + 1) ≤ lim - d.length → w = .int .i64 0 ∧ ∃ os2 ov2, st = few os2 ∧ IA os os2 c R X sv ov2 bs (8 * (q + 5 + nA bs (q + 1))) (d ++ (bs.drop (q + 5)).take (nA bs (q + 1))) lim) ∧
        (¬ (nA bs (q + 1) ≤ bs.length - (q + 5) ∧ nA bs (q + 1) ≤ lim - d.length) → w = .int .i64 (if bs.length - (q + 5) ≤ lim - d.length then 3 else 4)))
theorem StoredF.code {base : CallT} {g nAl nT nP : Nat} (hA : AlignF base nAl) (hT : TakeF base nT) (hP : PutF base nP) : StoredF (Vabs.withF base g 65537 (istored_c nAl nT nP)) g := fun os os' c R X sv ov bs q d lim h hq hl hf => by
  rw [withF_same]; exact stored_run (Nat.le_refl _) hA hT hP h hq hl hf
/-- What a block of a stream of stored ones comes to: an error, or where it ends, and what is out. -/
inductive Blk where
  | bad (e : Nat)
  | ok (last : Bool) (q : Nat) (d : List Nat)
def blkS (bs : List Nat) (lim q : Nat) (d : List Nat) : Option Blk :=
  if bs.length ≤ q then some (.bad 3) else
  if byteN bs q / 2 % 4 ≠ 0 then none else
  if bs.length < q + 5 then some (.bad 3) else
  if nA bs (q + 1) + nA bs (q + 3) ≠ 65535 then none else
  if nA bs (q + 1) ≤ bs.length - (q + 5) ∧ nA bs (q + 1) ≤ lim - d.length then some (.ok (byteN bs q % 2 == 1) (q + 5 + nA bs (q + 1)) (d ++ (bs.drop (q + 5)).take (nA bs (q + 1))))
  else some (.bad (if bs.length - (q + 5) ≤ lim - d.length then 3 else 4))
def BlkOut (r : Blk) (w : V) (st : St) (os : List (Option AObj)) (c R X : Nat) (sv : V) (bs : List Nat) (lim : Nat) : Prop :=
  match r with
  | .bad e => (∃ b, w = .tuple [.bool b, .int .i64 (e : Int)]) ∧ e ≠ 0
  | .ok last q' d' => w = .tuple [.bool last, .int .i64 0] ∧ ∃ os2 ov2, st = few os2 ∧ IA os os2 c R X sv ov2 bs (8 * q') d' lim
theorem block_run {call : CallT} {lf nT nS nF nO nC : Nat} (hT : TakeF call nT) (hS : StoredF call nS) {os os' : List (Option AObj)} {c R X : Nat} {sv ov : V} {bs : List Nat} {q : Nat} {d : List Nat} {lim : Nat} {r : Blk}
    (h : IA os os' c R X sv ov bs (8 * q) d lim) (hq : q ≤ bs.length) (hl : bs.length + d.length ≤ 35184372088832) (hr : blkS bs lim q d = some r) :
    ∃ w st, enterF call lf [.ptr (some (X, 0))] (few os') (iblock_c nT nS nF nO nC) = some (w, st) ∧
      BlkOut r w st os c R X sv bs lim := by
  have hXp : ∀ {os'' : List (Option AObj)} {ov p d}, IA os os'' c R X sv ov bs p d lim → loadV (few os'') false 1 (.ptr (some (X, 0))) = some (.ptr (some (R, 0))) := fun h => (load_few h.atX).trans rfl
  unfold blkS at hr
  split at hr
  · rename_i h0
    cases hr
    have t1 := h.short (m := 1) hT (by omega) (by omega) (by omega) (by omega)
    have t2 := h.short (m := 2) hT (by omega) (by omega) (by omega) (by omega)
    have t1 : call nT [.ptr (some (R, 0)), .int .i64 1] (few os') = some (.tuple [.int .i64 0, .bool false], few os') := t1
    have t2 : call nT [.ptr (some (R, 0)), .int .i64 2] (few os') = some (.tuple [.int .i64 0, .bool false], few os') := t2
    refine ⟨.tuple [.bool false, .int .i64 3], few os', ?_, ⟨false, rfl⟩, by omega⟩
    refine enter_eq ?_
    simp (disch := omega) [hXp h, t1, t2]
  · rename_i h0
    obtain ⟨os1, t1, h1⟩ := h.take (m := 1) hT (by omega) (by omega) (by omega)
    obtain ⟨os2, t2, h2⟩ := h1.take (m := 2) hT (by omega) (by omega) (by omega)
    rw [take_1] at t1
    rw [take_2] at t2
    rw [show 8 * q + 1 + 2 = 8 * q + 3 from by omega] at h2
    split at hr
    · cases hr
    · rename_i hk
      have hk : byteN bs q / 2 % 4 = 0 := by omega
      rw [hk] at t2
      obtain ⟨l, hl1⟩ : ∃ l, l = byteN bs q % 2 := ⟨_, rfl⟩
      rw [← hl1] at t1 hr
      have hll : l < 2 := by omega
      have t1 : call nT [.ptr (some (R, 0)), .int .i64 1] (few os') = some (.tuple [.int .i64 (l : Int), .bool true], few os1) := t1
      have t2 : call nT [.ptr (some (R, 0)), .int .i64 2] (few os1) = some (.tuple [.int .i64 0, .bool true], few os2) := t2
      have hf : q + 5 ≤ bs.length → nA bs (q + 1) + nA bs (q + 3) = 65535 := fun h5 => by
        rw [if_neg (by omega)] at hr
        split at hr
        · cases hr
        · omega
      obtain ⟨w, st, s1, s2, s3⟩ := hS os os2 c R X sv ov bs q d lim h2 (by omega) hl hf
      have hw : ∃ e : Int, w = .int .i64 e := by
        by_cases h5 : bs.length < q + 5
        · exact ⟨3, s2 h5⟩
        · obtain ⟨g1, g2⟩ := s3 (by omega)
          by_cases hg : nA bs (q + 1) ≤ bs.length - (q + 5) ∧ nA bs (q + 1) ≤ lim - d.length
          · exact ⟨0, (g1 hg).1⟩
          · exact ⟨_, g2 hg⟩
      obtain ⟨e, he⟩ := hw
      subst he
      have hrun : enterF call lf [.ptr (some (X, 0))] (few os') (iblock_c nT nS nF nO nC) = some (.tuple [.bool (l == 1), .int .i64 e], st) := by
        refine enter_eq ?_
        have hb : decide ((l : Int) = 1) = (l == 1) := by
          by_cases h : l = 1
          · rw [h]; rfl
          · rw [decide_eq_false (by omega)]; simp [h]
        simp (disch := omega) [hXp h, hXp h1, t1, t2, s1, hb]
      refine ⟨_, _, hrun, ?_⟩
      split at hr
      · rename_i h5
        cases hr
        have := s2 h5
        injection this with _ h6
        exact ⟨⟨_, by rw [h6]; rfl⟩, by omega⟩
      · rename_i h5
        obtain ⟨g1, g2⟩ := s3 (by omega)
        split at hr
        · cases hr
        · split at hr
          · rename_i hg
            cases hr
            obtain ⟨g3, g4⟩ := g1 hg
            injection g3 with _ h6
            exact ⟨by rw [h6], g4⟩
          · rename_i hg
            cases hr
            have := g2 hg
            injection this with _ h6
            refine ⟨⟨_, by rw [h6]; split <;> rfl⟩, by split <;> omega⟩

/- INFLATE -/
def BlkF (call : CallT) (g : Nat) : Prop := ∀ (os os' : List (Option AObj)) (c R X : Nat) (sv ov : V) (bs : List Nat) (q : Nat) (d : List Nat) (lim : Nat) (r : Blk), IA os os' c R X sv ov bs (8 * q) d lim → q ≤ bs.length → bs.length + d.length ≤ 35184372088832 → blkS bs lim q d = some r →
    ∃ w st, call g [.ptr (some (X, 0))] (few os') = some (w, st) ∧
      BlkOut r w st os c R X sv bs lim
theorem BlkF.code {base : CallT} {g lf nT nS nF nO nC : Nat} (hT : TakeF base nT) (hS : StoredF base nS) : BlkF (Vabs.withF base g lf (iblock_c nT nS nF nO nC)) g := fun os os' c R X sv ov bs q d lim r h hq hl hr => by
  rw [withF_same]; exact block_run hT hS h hq hl hr
/-- What a stream of stored blocks says: an error, or what is out and how many bytes were begun. -/
def inflN (bs : List Nat) (lim : Nat) : Nat → Nat → List Nat → Option (Nat ⊕ (List Nat × Nat))
  | 0, _, _ => none
  | f + 1, q, d => match blkS bs lim q d with
    | none => none
    | some (.bad e) => some (.inl e)
    | some (.ok true q' d') => some (.inr (d', q'))
    | some (.ok false q' d') => inflN bs lim f q' d'
theorem blk_next {bs : List Nat} {lim q : Nat} {d : List Nat} {last : Bool} {q' : Nat} {d' : List Nat} (h : blkS bs lim q d = some (.ok last q' d')) : q + 5 ≤ q' ∧ q' ≤ bs.length ∧ d'.length + q + 5 = d.length + q' := by
  unfold blkS at h
  split at h
  · cases h
  · split at h
    · cases h
    · split at h
      · cases h
      · split at h
        · cases h
        · split at h
          · rename_i h1 h2 h3 h4 h5
            injection h with h
            injection h with h6 h7 h8
            subst h7 h8
            refine ⟨by omega, by omega, ?_⟩
            rw [List.length_append, List.length_take, List.length_drop]
            omega
          · cases h
theorem NewBits_run {call : CallT} {lf nc : Nat} (hcl : CloneF call nc) {os : List (Option AObj)} {v : V} {bs : List Nat} (hb : bytesAt (few os) v = some bs) (hne : bs ≠ []) (hl : bs.length ≤ 140737488351232) :
    ∃ (pre : List (Option AObj)) (c : Nat) (sv : V), enterF call lf [v] (few os) (Si.NewBits_c nc) = some (.ptr (some (pre.length, 0)), few (pre ++ [some (.cells true [sv, .int .i64 0])])) ∧ os.length ≤ pre.length ∧ (∀ i, i < os.length → (pre[i]?).join = (os[i]?).join) ∧ c < pre.length ∧
      (∀ st, lenV st .slice sv = some (.int .i64 (bs.length : Int))) ∧ (∀ q, q < bs.length → idxAddrV (.slice 1) sv (some q) = some (.ptr (some (c, q)))) ∧ (∀ q, q < bs.length → ∃ own cs, (pre[c]?).join = some (.cells own cs) ∧ cs[q]? = some (.int .u8 (byteN bs q : Int))) := by
  obtain ⟨i, o, c, f, own, cs, rfl, h1, h2, h3, h4⟩ := bytesAt_place hb hne
  have e := hcl.1 os i o bs.length c f own cs bs (by rw [← few_get]; exact h2) h3 h4 rfl (by omega)
  unfold cloneR at e
  rw [if_neg hne] at e
  refine ⟨os ++ [some (newBytes []), some (newBytes bs)], os.length + 1, .slice (some (os.length + 1, 0)) 1 bs.length bs.length false, ?_, by simp, fun i hi => by rw [join_app hi], by simp, fun _ => rfl, fun q hq => ?_, fun q hq => ⟨true, bytesV bs, ?_, ?_⟩⟩
  · have al : (few (os ++ [some (newBytes []), some (newBytes bs)])).alloc (.cells true [.slice (some (os.length + 1, 0)) 1 bs.length bs.length false, .int .i64 0]) = some (os.length + 2, few (os ++ [some (newBytes []), some (newBytes bs), some (.cells true [.slice (some (os.length + 1, 0)) 1 bs.length bs.length false, .int .i64 0])])) := by
      rw [few_alloc]; simp
    refine enter_eq ?_
    simp [e, al]
  · rw [idxAddr_slice hq]; simp
  · rw [List.getElem?_append_right (by omega)]
    simp [newBytes]
  · rw [bytesV_at, List.getElem?_eq_getElem hq]
    unfold byteN
    rw [List.getD_eq_getElem?_getD, List.getElem?_eq_getElem hq]
    rfl
def NewBF (call : CallT) (g : Nat) : Prop := ∀ (os : List (Option AObj)) (v : V) (bs : List Nat), bytesAt (few os) v = some bs → bs ≠ [] → bs.length ≤ 140737488351232 →
    ∃ (pre : List (Option AObj)) (c : Nat) (sv : V), call g [v] (few os) = some (.ptr (some (pre.length, 0)), few (pre ++ [some (.cells true [sv, .int .i64 0])])) ∧ os.length ≤ pre.length ∧ (∀ i, i < os.length → (pre[i]?).join = (os[i]?).join) ∧ c < pre.length ∧
      (∀ st, lenV st .slice sv = some (.int .i64 (bs.length : Int))) ∧ (∀ q, q < bs.length → idxAddrV (.slice 1) sv (some q) = some (.ptr (some (c, q)))) ∧ (∀ q, q < bs.length → ∃ own cs, (pre[c]?).join = some (.cells own cs) ∧ cs[q]? = some (.int .u8 (byteN bs q : Int)))
theorem NewBF.code {base : CallT} {g lf nc : Nat} (hcl : CloneF base nc) : NewBF (Vabs.withF base g lf (Si.NewBits_c nc)) g := fun os v bs h1 h2 h3 => by
  rw [withF_same]; exact NewBits_run hcl h1 h2 h3
theorem load_backL {l : St} {os : List (Option AObj)} {i o : Nat} (h : l.vis i = true) : loadV (back l (few os)) false 1 (.ptr (some (i, o))) = loadV (few os) false 1 (.ptr (some (i, o))) := by
  show (back l (few os)).load1 i o = (few os).load1 i o
  unfold St.load1
  rw [get_back h]
theorem IA.rdL {os os' : List (Option AObj)} {c R X : Nat} {sv ov : V} {bs : List Nat} {p : Nat} {d : List Nat} {lim : Nat} (h : IA os os' c R X sv ov bs p d lim) {l : St} (hv : l.vis R = true) (hw : l.wr R = true) (hc : l.vis c = true) : Fb.Rd (fun p => back l (memB os' R sv p)) R c sv bs := by
  have H := h.rd
  refine ⟨fun p => ?_, fun p => ?_, fun p q => ?_, h.svl, h.svi, fun p q hq => ?_, h.hb⟩
  · exact (load_backL hv).trans (H.f0 p)
  · exact (load_backL hv).trans (H.f1 p)
  · exact (store_back hv hw).trans (by rw [show storeV (few _) 1 _ _ = _ from H.put p q]; rfl)
  · exact (load_backL hc).trans (H.byte p q hq)
theorem limF_back {fr : Bool} {ft : Foot} {ps : List Past} {st : St} : back (limF fr ft ps st) st = limF fr ft ps st := by cases st; cases ft <;> rfl
/-- Used, in a drawn region behind a load of the inflater. -/
theorem IA.usedL {call : CallT} {nU : Nat} (hU : UsedF call nU) {os os' : List (Option AObj)} {c R X : Nat} {sv ov : V} {bs : List Nat} {p : Nat} {d : List Nat} {lim : Nat} (h : IA os os' c R X sv ov bs p d lim) (hl : bs.length ≤ 140737488351232) (hp : p ≤ 8 * bs.length) :
    call nU [.ptr (some (R, 0))] (limF true .call [⟨os'.length, os'.length, .dir [X] []⟩] (few os')) = some (.int .i64 (((p + 7) / 8 : Nat) : Int), limF true .call [⟨os'.length, os'.length, .dir [X] []⟩] (few os')) := by
  have hRX := h.hRX
  have hcX := h.hcX
  have hid : ∀ i, hidden [⟨os'.length, os'.length, .dir [X] []⟩] i = false := fun i => by
    show (Nat.ble os'.length i && Nat.blt i os'.length || false) = false
    rw [Bool.or_false]
    cases h1 : Nat.ble os'.length i with
    | false => rfl
    | true =>
      rw [Nat.ble_eq] at h1
      cases h2 : Nat.blt i os'.length with
      | false => rfl
      | true => rw [Nat.blt_eq] at h2; omega
  have hvis : ∀ i, (limF true .call [⟨os'.length, os'.length, .dir [X] []⟩] (few os')).vis i = true := fun i => by
    show (true && !hidden [⟨os'.length, os'.length, .dir [X] []⟩] i) = true
    rw [hid]; rfl
  have hwr : (limF true .call [⟨os'.length, os'.length, .dir [X] []⟩] (few os')).wr R = true := by
    show (true && (Nat.ble (few os').next R || (true && ((!Vabs.mem R [X]) && true)))) = true
    have : Vabs.mem R [X] = false := by
      cases hm : Vabs.mem R [X] with
      | false => rfl
      | true =>
        have := mem_of.1 hm
        simp at this
        omega
    rw [this]
    simp
  have := hU (fun p => back (limF true .call [⟨os'.length, os'.length, .dir [X] []⟩] (few os')) (memB os' R sv p)) R c sv bs p (h.rdL (hvis R) hwr (hvis c)) hp hl
  rw [h.mem, limF_back] at this
  exact this
set_option maxHeartbeats 1000000 in
theorem Inflate_run {call : CallT} {lf nN nB nU : Nat} (hN : NewBF call nN) (hB : BlkF call nB) (hU : UsedF call nU) {os : List (Option AObj)} {v : V} {bs : List Nat} (hb : bytesAt (few os) v = some bs) (hne : bs ≠ []) (hl : bs.length ≤ 17592186044416) (hlf : bs.length + 1 < lf) {lim : Int} {r : Nat ⊕ (List Nat × Nat)} (hr : inflN bs (max 0 lim).toNat (bs.length + 1) 0 [] = some r) :
    ∃ w os', enterF call lf [v, .int .i64 lim] (few os) (Inflate_c nN nB nU) = some (w, os') ∧
      match r with
      | .inl e => w = .tuple [.slice none 0 0 0 true, .int .i64 0, .int .i64 (e : Int)]
      | .inr (d, q) => ∃ ov os2, os' = few os2 ∧ w = .tuple [ov, .int .i64 (q : Int), .int .i64 0] ∧ OutAt os2 os.length ov d := by
  have main := enter_wp (call := call) (lf := lf) (n := 36) (args := [v, .int .i64 lim]) (st := few os) (K := fun w os' => match r with
      | .inl e => w = .tuple [.slice none 0 0 0 true, .int .i64 0, .int .i64 (e : Int)]
      | .inr (d, q) => ∃ ov os2, os' = few os2 ∧ w = .tuple [ov, .int .i64 (q : Int), .int .i64 0] ∧ OutAt os2 os.length ov d) (c := (Inflate_c nN nB nU).code) (rs := (Inflate_c nN nB nU).results) ?_
  · obtain ⟨w, st', h1, h2⟩ := main
    exact ⟨w, st', h1, h2⟩
  · obtain ⟨pre, c, sv, c1, hpl, hpo, hcl, v1, v2, v3⟩ := hN os v bs hb hne (by omega)
    obtain ⟨L, hL⟩ : ∃ L, L = (max 0 lim).toNat := ⟨_, rfl⟩
    have hLi : max 0 lim = (L : Int) := by rw [hL]; omega
    rw [← hL] at hr
    have mm : mmAll true (.int .i64 0) [.int .i64 lim] = some (.int .i64 (L : Int)) := by rw [← hLi]; exact mm_max
    obtain ⟨A, hA⟩ : ∃ A, A = pre ++ [some (.cells true [sv, .int .i64 0])] ++ [some (.cells true [.ptr (some (pre.length, 0)), .slice none 0 0 0 true, .int .i64 (L : Int)])] := ⟨_, rfl⟩
    have al : (few (pre ++ [some (.cells true [sv, .int .i64 0])])).alloc (.cells true [.ptr (some (pre.length, 0)), .slice none 0 0 0 true, .int .i64 (L : Int)]) = some (pre.length + 1, few A) := by
      rw [few_alloc, hA]; simp
    have hAl : A.length = pre.length + 2 := by rw [hA]; simp
    have hA0 : ∀ i, i < pre.length → (A[i]?).join = (pre[i]?).join := fun i hi => by rw [hA, List.append_assoc, join_app hi]
    have hbb := bytesAt_lt hb
    have h0 : IA os A c pre.length (pre.length + 1) sv (.slice none 0 0 0 true) bs (8 * 0) [] L := by
      refine ⟨by omega, hpl, fun i hi => ?_, by omega, by omega, by omega, v1, v2, fun q hq => ?_, fun q => ?_, ?_, ?_, .inl ⟨rfl, rfl⟩⟩
      · rw [hA0 i (by omega)]; exact hpo i hi
      · rw [hA0 c (by omega)]; exact v3 q hq
      · unfold byteN
        rw [List.getD_eq_getElem?_getD]
        cases hx : bs[q]? with
        | none => show 0 < 256; omega
        | some b => exact hbb b (List.mem_of_getElem? hx)
      · rw [hA, List.append_assoc]
        simp
      · rw [hA]
        simp
    unfold Inflate_c
    dsimp only
    simp (disch := omega) [c1, mm, al]
    refine wp_loop (fun k s st => ∃ os' ov q d f, st = few os' ∧ IA os os' c pre.length (pre.length + 1) sv ov bs (8 * q) d L ∧ k = bs.length - q ∧ q ≤ bs.length ∧ d.length ≤ q ∧ inflN bs L f q d = some r ∧ s (.o (.o (.o .h))) = .ptr (some (pre.length + 1, 0))) bs.length ?_ (by omega) ?_
    · refine ⟨A, _, 0, [], bs.length + 1, rfl, h0, by omega, by omega, by simp, hr, ?_⟩
      simp
    · rintro k s st ⟨os', ov, q, d, f, rfl, h1, rfl, hq, hd, hf, s1⟩
      cases f with
      | zero => cases hf
      | succ f =>
        unfold inflN at hf
        split at hf
        · cases hf
        · rename_i e hbk
          cases hf
          obtain ⟨w, st, b1, ⟨b, hw⟩, he⟩ := hB os os' c pre.length (pre.length + 1) sv ov bs q d L _ h1 hq (by omega) hbk
          subst hw
          simp (disch := omega) [s1, b1, deqn_f]
        · rename_i q' d' hbk
          cases hf
          obtain ⟨w, st, b1, hw, os2, ov2, rfl, h2⟩ := hB os os' c pre.length (pre.length + 1) sv ov bs q d L _ h1 hq (by omega) hbk
          subst hw
          obtain ⟨e1, e2, e3⟩ := blk_next hbk
          have hu := h2.usedL hU (by omega) (by omega)
          rw [show (8 * q' + 7) / 8 = q' from by omega] at hu
          have hu : call nU [.ptr (some (pre.length, 0))] (limF true .call [⟨os2.length, os2.length, .dir (idOf (.ptr (some (pre.length + 1, 1)))) []⟩] (few os2)) = some (.int .i64 (q' : Int), limF true .call [⟨os2.length, os2.length, .dir (idOf (.ptr (some (pre.length + 1, 1)))) []⟩] (few os2)) := hu
          have l0 : loadV (few os2) false 1 (.ptr (some (pre.length + 1, 0))) = some (.ptr (some (pre.length, 0))) := (load_few h2.atX).trans rfl
          have l1 : loadV (few os2) false 1 (.ptr (some (pre.length + 1, 1))) = some ov2 := (load_few h2.atX).trans rfl
          simp (disch := omega) [s1, b1, l0, l1, hu, back_limF, next_limF, foot_call, h2.out.plain]
          refine ⟨ov2, os2, rfl, rfl, ?_⟩
          rcases h2.out with g | ⟨j, g1, g2, g3⟩
          · exact .inl g
          · exact .inr ⟨j, ⟨by omega, g1.2⟩, g2, g3⟩
        · rename_i q' d' hbk
          obtain ⟨w, st, b1, hw, os2, ov2, rfl, h2⟩ := hB os os' c pre.length (pre.length + 1) sv ov bs q d L _ h1 hq (by omega) hbk
          subst hw
          obtain ⟨e1, e2, e3⟩ := blk_next hbk
          simp (disch := omega) [s1, b1]
          exact ⟨bs.length - q', by omega, os2, rfl, ov2, q', d', h2, rfl, by omega, by omega, f, hf⟩

/- THE LAWS -/
theorem Left.sl3 {τ : Way} {n : Nat} {s0 s1 : St} {j e m c : Nat} {f : Bool} {k k' : IntKind} {x x' : Int} {cs : List V} (hf : ∀ v ∈ cs, v.flat = true) (hm : m ≤ c) (hj : s0.next ≤ j) (hg : s1.heap.get j = some (.cells true cs)) :
    Left τ n s0 s1 (.tuple [.slice (some (j, 0)) e m c f, .int k x, .int k' x']) [.cells true cs] [j] (.tuple [.slice (some (n, 0)) e m m false, .int k x, .int k' x']) := by
  have base := Left.cells (τ := τ) (n := n) (s0 := s0) (s1 := s1) (e := e) (f := f) hf hm hj hg
  refine ⟨?_, base.len, base.objs, base.inj⟩
  rintro ι1 ι2 x ho ⟨cs', rfl, h1⟩
  refine ⟨cs', rfl, ?_⟩
  match cs'.toList, h1 with
  | x :: y :: z :: [], ⟨h2, h3, h4, _⟩ =>
    have h2 : R0 ι1 (.slice (some (j, 0)) e m c f) x := h2
    have := base.val ι1 ι2 x ho h2.up
    exact ⟨((R_sl rfl).1 this).up1, h3, h4, trivial⟩
noncomputable def bytesA (d : List Nat) : Ans := ([newBytes d], fun k => .slice (some (k, 0)) 1 d.length d.length false)
noncomputable def storedSpec : Nat → Sight → List V → Option Ans := fun _ l args =>
  match args with
  | [v] => match lookB l v with | some bs => if bs.length ≤ 1099511627776 then some (bytesA (storedB bs)) else none | none => none
  | _ => none
theorem storedSpec_mono : MonoN storedSpec := by
  intro n l l' args a h ha
  unfold storedSpec at ha ⊢
  split at ha
  · split at ha
    · rename_i bs hbs
      rw [lookB_mono h hbs]
      exact ha
    · cases ha
  · cases ha
theorem storedB_ne (bs : List Nat) : storedB bs ≠ [] := by
  intro e
  rcases Nat.lt_or_ge 65535 bs.length with h | h
  · rw [stored_more h] at e
    simp [blkB, blkH] at e
  · rw [stored_last h] at e
    simp [blkB, blkH] at e
theorem Stored_sound {P : Program} {call : CallT} (hmix : P.follows .mixedOrders = true) (hs : Sound P call) {g nB : Nat} (hB : BlockF call nB) (hc : compF P g = some (Stored_c nB)) : Sound P (withL call g (lawOf (sightRdN storedSpec))) := by
  refine hs.sightN hmix 1099511627777 hc storedSpec_mono fun os args new f hg hx => ?_
  unfold storedSpec at hx
  split at hx
  · rename_i v
    split at hx
    · rename_i bs hbs
      split at hx
      · rename_i hl
        have hx : bytesA (storedB bs) = (new, f) := Option.some.inj hx
        have hnew : new = (bytesA (storedB bs)).1 := by rw [hx]
        have hff : f = (bytesA (storedB bs)).2 := by rw [hx]
        subst hnew hff
        have hg' : v.good os.length = true := by simpa [goods] using hg
        obtain ⟨w, os', h1, h2, h3, h4⟩ := Stored_run (lf := 1099511627777) hB hg' hbs (by omega) (by omega)
        rcases h2 with ⟨h5, _⟩ | ⟨q, h5, rfl, h6⟩
        · exact absurd h5 (storedB_ne bs)
        · exact ⟨_, _, [q], h1, Left.cells bytesV_flat (Nat.le_refl _) (by rw [few_next]; exact h5.1) (by rw [few_heap]; exact h6)⟩
      · cases hx
    · cases hx
  · cases hx
def StoredLF (call : CallT) (g : Nat) : Prop := ∀ os v bs, v.good os.length = true → lookB (few os).look v = some bs → bs.length ≤ 1099511627776 → call g [v] (few os) = some (.slice (some (os.length, 0)) 1 (storedB bs).length (storedB bs).length false, few (os ++ [some (newBytes (storedB bs))]))
theorem storedL_fact {call : CallT} {g : Nat} : StoredLF (withL call g (lawOf (sightRdN storedSpec))) g := by
  intro os v bs hg hb h1
  rw [sightN_call (by simp [goods, hg, few_next])]
  unfold storedSpec
  dsimp only
  rw [hb]
  dsimp only
  rw [if_pos h1]
  exact lawOut_few
theorem StoredLF.other {call : CallT} {n g : Nat} {l : List V → St → Option (V × St)} (h : StoredLF call n) (hne : n ≠ g) : StoredLF (withL call g l) n := fun os v bs a b c => by rw [withL_other hne]; exact h os v bs a b c
theorem StoredLF.withF {call : CallT} {n g lf : Nat} {fn : AFunc} (h : StoredLF call n) (hne : n ≠ g) : StoredLF (Vabs.withF call g lf fn) n := fun os v bs a b c => by rw [withF_other hne]; exact h os v bs a b c
/-- Inflate's answer. -/
noncomputable def inflA : Nat ⊕ (List Nat × Nat) → Ans
  | .inl e => ([], fun _ => .tuple [.slice none 0 0 0 true, .int .i64 0, .int .i64 (e : Int)])
  | .inr (d, q) => if d = [] then ([], fun _ => .tuple [.slice none 0 0 0 true, .int .i64 (q : Int), .int .i64 0]) else ([newBytes d], fun k => .tuple [.slice (some (k, 0)) 1 d.length d.length false, .int .i64 (q : Int), .int .i64 0])
noncomputable def inflSpec : Nat → Sight → List V → Option Ans := fun _ l args =>
  match args with
  | [v, .int .i64 lim] => match lookB l v with | some bs => if bs ≠ [] ∧ bs.length ≤ 17592186044416 then (inflN bs (max 0 lim).toNat (bs.length + 1) 0 []).map inflA else none | none => none
  | _ => none
theorem inflSpec_mono : MonoN inflSpec := by
  intro n l l' args a h ha
  unfold inflSpec at ha ⊢
  split at ha
  · split at ha
    · rename_i bs hbs
      rw [lookB_mono h hbs]
      exact ha
    · cases ha
  · cases ha
theorem Inflate_sound {P : Program} {call : CallT} (hmix : P.follows .mixedOrders = true) (hs : Sound P call) {g nN nB nU : Nat} (hN : NewBF call nN) (hB : BlkF call nB) (hU : UsedF call nU) (hc : compF P g = some (Inflate_c nN nB nU)) : Sound P (withL call g (lawOf (sightRdN inflSpec))) := by
  refine hs.sightN hmix 17592186044419 hc inflSpec_mono fun os args new f hg hx => ?_
  unfold inflSpec at hx
  split at hx
  · rename_i v lim
    split at hx
    · rename_i bs hbs
      split at hx
      · rename_i hl
        cases hr : inflN bs (max 0 lim).toNat (bs.length + 1) 0 [] with
        | none => rw [hr] at hx; cases hx
        | some r =>
          rw [hr] at hx
          have hx : inflA r = (new, f) := Option.some.inj hx
          have hnew : new = (inflA r).1 := by rw [hx]
          have hff : f = (inflA r).2 := by rw [hx]
          subst hnew hff
          obtain ⟨w, os', h1, h2⟩ := Inflate_run (lf := 17592186044419) hN hB hU (lookB_at hbs) hl.1 hl.2 (by omega) hr
          cases r with
          | inl e =>
            have h2 : w = _ := h2
            subst h2
            exact ⟨_, _, [], h1, Left.flat rfl⟩
          | inr dq =>
            obtain ⟨d, q⟩ := dq
            obtain ⟨ov, os2, rfl, rfl, h3⟩ := h2
            unfold inflA
            dsimp only
            rcases h3 with ⟨rfl, rfl⟩ | ⟨j, h4, rfl, h5⟩
            · rw [if_pos rfl]
              exact ⟨_, _, [], h1, Left.flat rfl⟩
            · rw [if_neg h4.2]
              exact ⟨_, _, [j], h1, Left.sl3 bytesV_flat (Nat.le_refl _) (by rw [few_next]; exact h4.1) (by rw [few_heap]; exact h5)⟩
      · cases hx
    · cases hx
  · cases hx

end Go.Vabs.Sj

namespace Go.Vabs.Sk
set_option linter.unusedVariables false
set_option linter.unusedSimpArgs false
set_option maxRecDepth 10000
def FlateStored_c (n_Pick : Nat) (n_Stored : Nat) (n_Inflate : Nat) (n_known : Nat) : AFunc := AFunc.mk 93 (.seq (.reg [AOper.mk (some (.i (.i .h))) (.mv (.c (.bool false))) none]) (.seq (.seq (.reg [AOper.mk (some (.i (.i (.o (.o .h))))) (.bin .rem (.val .int) (.t (.o .h)) (.c (.int .i64 (.ofNat 13)))) none, AOper.mk (some (.o (.o (.i (.o .h))))) (.bin .eql (.val .int) (.t (.i (.i (.o (.o .h))))) (.c (.int .i64 (.ofNat 12)))) none]) (.cond (.t (.o (.o (.i (.o .h))))) (.reg [AOper.mk (some (.o (.i (.i (.o .h))))) (.call n_Pick [.t (.o .h), .c (.int .i64 (.ofNat 20))]) none, AOper.mk (some (.i (.i (.i (.o .h))))) (.bin .add (.val .int) (.c (.int .i64 (.ofNat 65530))) (.t (.o (.i (.i (.o .h)))))) none, AOper.mk (some (.o (.o (.o (.i .h))))) (.mkslice 1 1 [.int .u8 (.ofNat 0)] (.t (.i (.i (.i (.o .h))))) (.t (.i (.i (.i (.o .h)))))) none, AOper.mk (some (.o (.i (.o (.i .h))))) (.append 1 1 (.t (.o (.o (.o (.i .h))))) (.t .h)) none, AOper.mk (some .h) (.mv (.t (.o (.i (.o (.i .h)))))) none]) .skip)) (.seq (.reg [AOper.mk (some (.o (.o (.i (.i .h))))) (.call n_Stored [.t .h]) none, AOper.mk (some (.o (.o (.o .h)))) (.mv (.t (.o (.o (.i (.i .h)))))) none]) (.seq (.reg [AOper.mk (some (.o (.i (.i (.i .h))))) (.bslice 1 0 [.int .u8 (.ofNat 0)] []) none, AOper.mk (some (.o (.o (.o (.o (.o .h)))))) (.append 1 1 (.t (.o (.i (.i (.i .h))))) (.t (.o (.o (.o .h))))) none, AOper.mk (some (.o (.i (.o (.o (.o .h)))))) (.append 1 1 (.t (.o (.o (.o (.o (.o .h)))))) (.t (.i .h))) none, AOper.mk (some (.o (.o (.i (.o (.o .h)))))) (.len .slice (.t .h)) none, AOper.mk (some (.i (.o (.i (.o (.o .h)))))) (.call n_Inflate [.t (.o (.i (.o (.o (.o .h))))), .t (.o (.o (.i (.o (.o .h)))))]) none, AOper.mk (some (.o (.i (.i (.o (.o .h)))))) (.extract (.t (.i (.o (.i (.o (.o .h)))))) 0) none, AOper.mk (some (.i (.i (.i (.o (.o .h)))))) (.extract (.t (.i (.o (.i (.o (.o .h)))))) 1) none, AOper.mk (some (.o (.o (.o (.i (.o .h)))))) (.extract (.t (.i (.o (.i (.o (.o .h)))))) 2) none, AOper.mk (some (.i (.o (.o .h)))) (.mv (.t (.o (.i (.i (.o (.o .h))))))) none, AOper.mk (some (.o (.i (.o .h)))) (.mv (.t (.i (.i (.i (.o (.o .h))))))) none, AOper.mk (some (.i (.i (.o .h)))) (.mv (.t (.o (.o (.o (.i (.o .h))))))) none]) (.seq (.reg [AOper.mk (some (.o (.o (.i (.i (.o .h)))))) (.len .slice (.t (.o (.o (.o .h))))) none, AOper.mk (some (.i (.o (.i (.i (.o .h)))))) (.bin .sub (.val .int) (.t (.o (.o (.i (.i (.o .h)))))) (.c (.int .i64 (.ofNat 1)))) none, AOper.mk (some (.o (.i (.i (.i (.o .h)))))) (.minmax true (.c (.int .i64 (.ofNat 0))) [.t (.i (.o (.i (.i (.o .h)))))]) none, AOper.mk (some (.i (.i (.i (.i (.o .h)))))) (.slice (.slice 1) (.t (.o (.o (.o .h)))) none (some (.t (.o (.i (.i (.i (.o .h))))))) none) none, AOper.mk (some (.i (.o (.o (.o (.i .h)))))) (.len .slice (.t .h)) none, AOper.mk (some (.o (.i (.o (.o (.i .h)))))) (.call n_Inflate [.t (.i (.i (.i (.i (.o .h))))), .t (.i (.o (.o (.o (.i .h)))))]) none, AOper.mk (some (.i (.i (.o (.o (.i .h)))))) (.extract (.t (.o (.i (.o (.o (.i .h)))))) 0) none, AOper.mk (some (.o (.o (.i (.o (.i .h)))))) (.extract (.t (.o (.i (.o (.o (.i .h)))))) 1) none, AOper.mk (some (.i (.o (.i (.o (.i .h)))))) (.extract (.t (.o (.i (.o (.o (.i .h)))))) 2) none, AOper.mk (some (.o (.o (.i .h)))) (.mv (.t (.i (.i (.o (.o (.i .h))))))) none, AOper.mk (some (.i (.o (.i .h)))) (.mv (.t (.o (.o (.i (.o (.i .h))))))) none, AOper.mk (some (.o (.i (.i .h)))) (.mv (.t (.i (.o (.i (.o (.i .h))))))) none]) (.seq (.reg [AOper.mk (some (.i (.o (.o (.i (.i .h)))))) (.len .slice (.t .h)) none, AOper.mk (some (.o (.i (.o (.i (.i .h)))))) (.bin .sub (.val .int) (.t (.i (.o (.o (.i (.i .h)))))) (.c (.int .i64 (.ofNat 1)))) none, AOper.mk (some (.i (.i (.o (.i (.i .h)))))) (.call n_Inflate [.t (.o (.o (.o .h))), .t (.o (.i (.o (.i (.i .h)))))]) none, AOper.mk (some (.o (.o (.i (.i (.i .h)))))) (.extract (.t (.i (.i (.o (.i (.i .h)))))) 0) none, AOper.mk (some (.i (.o (.i (.i (.i .h)))))) (.extract (.t (.i (.i (.o (.i (.i .h)))))) 1) none, AOper.mk (some (.o (.i (.i (.i (.i .h)))))) (.extract (.t (.i (.i (.o (.i (.i .h)))))) 2) none, AOper.mk (some (.i (.i (.i .h)))) (.mv (.t (.o (.o (.i (.i (.i .h))))))) none, AOper.mk (some (.o (.o (.o (.o .h))))) (.mv (.t (.i (.o (.i (.i (.i .h))))))) none, AOper.mk (some (.i (.o (.o (.o .h))))) (.mv (.t (.o (.i (.i (.i (.i .h))))))) none]) (.seq (.reg [AOper.mk (some (.i (.i (.i (.i (.i .h)))))) (.call n_known []) none, AOper.mk (some (.o (.o (.o (.o (.o (.o .h))))))) (.mv (.t (.i (.i (.i (.i (.i .h))))))) none, AOper.mk (some (.o (.i (.o (.o (.o (.o .h))))))) (.bin .eql (.val .int) (.t (.i (.i (.o .h)))) (.c (.int .i64 (.ofNat 0)))) (some (.o (.o (.o (.o (.o (.o .h))))), true)), AOper.mk (some (.i (.i (.o (.o (.o (.o .h))))))) (.pick (.t (.o (.o (.o (.o (.o (.o .h))))))) (.t (.o (.i (.o (.o (.o (.o .h))))))) (.c (.bool false))) none, AOper.mk (some (.o (.o (.i (.o (.o (.o .h))))))) (.mv (.t (.i (.i (.o (.o (.o (.o .h)))))))) none, AOper.mk (some (.o (.i (.i (.o (.o (.o .h))))))) (.conv .toStr (.t (.i (.o (.o .h))))) (some (.o (.o (.i (.o (.o (.o .h))))), true)), AOper.mk (some (.o (.o (.o (.i (.o (.o .h))))))) (.conv .toStr (.t .h)) (some (.o (.o (.i (.o (.o (.o .h))))), true)), AOper.mk (some (.i (.o (.o (.i (.o (.o .h))))))) (.bin .eql (.val .str) (.t (.o (.i (.i (.o (.o (.o .h))))))) (.t (.o (.o (.o (.i (.o (.o .h)))))))) (some (.o (.o (.i (.o (.o (.o .h))))), true)), AOper.mk (some (.o (.i (.o (.i (.o (.o .h))))))) (.pick (.t (.o (.o (.i (.o (.o (.o .h))))))) (.t (.i (.o (.o (.i (.o (.o .h))))))) (.c (.bool false))) none, AOper.mk (some (.i (.i (.o (.i (.o (.o .h))))))) (.mv (.t (.o (.i (.o (.i (.o (.o .h)))))))) none, AOper.mk (some (.o (.i (.i (.i (.o (.o .h))))))) (.len .slice (.t (.o (.o (.o .h))))) (some (.i (.i (.o (.i (.o (.o .h))))), true)), AOper.mk (some (.i (.i (.i (.i (.o (.o .h))))))) (.bin .eql (.val .int) (.t (.o (.i (.o .h)))) (.t (.o (.i (.i (.i (.o (.o .h)))))))) (some (.i (.i (.o (.i (.o (.o .h))))), true)), AOper.mk (some (.o (.o (.o (.o (.i (.o .h))))))) (.pick (.t (.i (.i (.o (.i (.o (.o .h))))))) (.t (.i (.i (.i (.i (.o (.o .h))))))) (.c (.bool false))) none, AOper.mk (some (.i (.o (.o (.o (.i (.o .h))))))) (.mv (.t (.o (.o (.o (.o (.i (.o .h)))))))) none, AOper.mk (some (.i (.i (.o (.o (.i (.o .h))))))) (.bin .eql (.val .int) (.t (.o (.i (.i .h)))) (.c (.int .i64 (.ofNat 3)))) (some (.i (.o (.o (.o (.i (.o .h))))), true)), AOper.mk (some (.o (.o (.i (.o (.i (.o .h))))))) (.pick (.t (.i (.o (.o (.o (.i (.o .h))))))) (.t (.i (.i (.o (.o (.i (.o .h))))))) (.c (.bool false))) none, AOper.mk (some (.i (.o (.i (.o (.i (.o .h))))))) (.mv (.t (.o (.o (.i (.o (.i (.o .h)))))))) none, AOper.mk (some (.i (.i (.i (.o (.i (.o .h))))))) (.len .slice (.t .h)) (some (.i (.o (.i (.o (.i (.o .h))))), true)), AOper.mk (some (.o (.o (.o (.i (.i (.o .h))))))) (.bin .eql (.val .int) (.t (.i (.i (.i (.o (.i (.o .h))))))) (.c (.int .i64 (.ofNat 0)))) (some (.i (.o (.i (.o (.i (.o .h))))), true)), AOper.mk (some (.i (.o (.o (.i (.i (.o .h))))))) (.mv (.t (.o (.o (.o (.i (.i (.o .h)))))))) (some (.i (.o (.i (.o (.i (.o .h))))), true)), AOper.mk (some (.i (.i (.o (.i (.i (.o .h))))))) (.bin .eql (.val .int) (.t (.i (.o (.o (.o .h))))) (.c (.int .i64 (.ofNat 4)))) (some (.i (.o (.o (.i (.i (.o .h))))), false)), AOper.mk (some (.o (.o (.i (.i (.i (.o .h))))))) (.pick (.t (.i (.o (.o (.i (.i (.o .h))))))) (.c (.bool true)) (.t (.i (.i (.o (.i (.i (.o .h)))))))) (some (.i (.o (.i (.o (.i (.o .h))))), true)), AOper.mk (some (.i (.o (.i (.i (.i (.o .h))))))) (.pick (.t (.i (.o (.i (.o (.i (.o .h))))))) (.t (.o (.o (.i (.i (.i (.o .h))))))) (.c (.bool false))) none, AOper.mk (some (.i (.i .h))) (.mv (.t (.i (.o (.i (.i (.i (.o .h)))))))) none]) .ret))))))) [.tmp (.i (.i .h))]
attribute [local simp] wp_skip wp_ret wp_exit wp_reg wp_seq wp_cond wp_block thenQ_normal thenQ_ret thenQ_exit blockQ_normal blockQ_ret blockQ_exit wpCond_true wpCond_false wpOps_nil wpVal_some wpGuard_true wpGuard_false wpOps_guard wpOps_cons
  put_at put_no ev_c ev_slot posEq_h posEq_o posEq_i posEq_ho posEq_hi posEq_oh posEq_ih posEq_oi posEq_io sel_true sel_false
  okv_some step_mv step_call step_pick pickV_bool step_bin bin_add bin_sub bin_mul bin_eql bin_neq bin_lss bin_leq bin_gtr bin_geq bin_eqb bin_neb bin_eqs bin_nes step_un un_not un_neg step_len len_slice len_str len_const step_extract extractV nth step_convInt conv_int step_convStr step_slice step_idxAddr natOf_nat step_load step_index step_field step_fieldAddr step_build step_minmax
  step_alloc step_bslice bsliceV_some newV_some step_store step_append boolIs_b boolIs_t finQ_ret finQ_normal ressE_nil ressE_cons resE_tmp consO_some initE_nil initE_cons pos_0 pos_1 pos_2 pos_3 pos_4 pos_5 pos_6 pos_7 pos_8 plain_bool plain_int plain_str plain_ptr plain_slice plain_map plain_agg plain_func plain_nilFunc V.undef oneOf_one oneOf_two ble_self
open Go.Vabs.Pk Go.Vabs.Ph Go.Vabs.Fb Go.Vabs.Sa Go.Vabs.Sb Go.Vabs.Sc Go.Vabs.Sg Go.Vabs.Sh Go.Vabs.Si Go.Vabs.Sj
attribute [local simp] step_nilchk nilchk_ptr step_box cells_int cells_bool cells_str cells_slice cells_ptr cells_agg fieldAddrV natOf_zero fill repN splice over newV
  wp_dreg wpDs_nil wpDs_cons wantedE_none wantedE_some wpDGuard_true wpDGuard_lim wpDGuard_false wpDLim_true wpDVal_free wpDVal_lim back_limited next_limited limF_dir limF_false foot_load foot_convStr okAll_nil okAll_cons pastsOf nthP ahead few_next load_limited okPair_dd okPair_dc okPair_cd okPair_cc anyIn_nil anyIn_same anyIn_cons meets_nil meets_nil' blt_dec
/- WHAT IS STORED IS INFLATED THE SAME: PLAIN -/
theorem byteN_drop (bs : List Nat) (q i : Nat) : byteN bs (q + i) = byteN (bs.drop q) i := by
  unfold byteN
  rw [List.getD_eq_getElem?_getD, List.getD_eq_getElem?_getD, List.getElem?_drop]
theorem byteN_app {a b : List Nat} {i : Nat} (h : i < a.length) : byteN (a ++ b) i = byteN a i := by
  unfold byteN
  rw [List.getD_eq_getElem?_getD, List.getD_eq_getElem?_getD, List.getElem?_append_left h]
theorem byteN_take {a : List Nat} {i m : Nat} (h : i < m) : byteN (a.take m) i = byteN a i := by
  unfold byteN
  rw [List.getD_eq_getElem?_getD, List.getD_eq_getElem?_getD, List.getElem?_take, if_pos h]
theorem blk_len (last : Nat) (x : List Nat) : (blkB last x).length = x.length + 5 := by simp [blkB, blkH]
/-- The head of a block. -/
theorem blk_head {last : Nat} {x : List Nat} (h : x.length ≤ 65535) : byteN (blkB last x) 0 = last ∧ nA (blkB last x) 1 = x.length ∧ nA (blkB last x) 3 = 65535 - x.length ∧ (blkB last x).drop 5 = x := by
  refine ⟨rfl, ?_, ?_, rfl⟩
  · show x.length % 256 + x.length / 256 % 256 * 256 = x.length
    omega
  · show 255 - x.length % 256 + (255 - x.length / 256 % 256) * 256 = 65535 - x.length
    omega
theorem nA_drop (bs : List Nat) (q i : Nat) : nA bs (q + i) = nA (bs.drop q) i := by
  unfold nA
  rw [show q + i + 1 = q + (i + 1) from by omega, byteN_drop, byteN_drop]
theorem nA_app {a b : List Nat} {i : Nat} (h : i + 1 < a.length) : nA (a ++ b) i = nA a i := by
  unfold nA
  rw [byteN_app (by omega), byteN_app h]
theorem nA_take {a : List Nat} {i m : Nat} (h : i + 1 < m) : nA (a.take m) i = nA a i := by
  unfold nA
  rw [byteN_take (by omega), byteN_take h]
theorem blk_ok {bs rest x d : List Nat} {lim q last : Nat} (h : bs.drop q = blkB last x ++ rest) (hx : x.length ≤ 65535) (hlast : last < 2) (hr : x.length ≤ lim - d.length) : blkS bs lim q d = some (.ok (last == 1) (q + 5 + x.length) (d ++ x)) := by
  obtain ⟨h0, h1, h3, h5⟩ := blk_head (last := last) hx
  have hl := blk_len last x
  have hlen : bs.length - q = x.length + 5 + rest.length := by rw [← List.length_drop, h, List.length_append, hl]
  have e0 : byteN bs q = last := by rw [show q = q + 0 from rfl, byteN_drop, h, byteN_app (by omega), h0]
  have e1 : nA bs (q + 1) = x.length := by rw [nA_drop, h, nA_app (by omega), h1]
  have e3 : nA bs (q + 3) = 65535 - x.length := by rw [nA_drop, h, nA_app (by omega), h3]
  have e5 : (bs.drop (q + 5)).take x.length = x := by
    rw [← List.drop_drop, h, List.drop_append_of_le_length (by omega), h5, List.take_append_of_le_length (Nat.le_refl _), List.take_length]
  unfold blkS
  rw [e0, e1, e3, e5, if_neg (by omega), if_neg (by omega), if_neg (by omega), if_neg (by omega), if_pos ⟨by omega, hr⟩, Nat.mod_eq_of_lt hlast]
theorem blk_big {bs rest x d : List Nat} {lim q last : Nat} (h : bs.drop q = blkB last x ++ rest) (hx : x.length ≤ 65535) (hlast : last < 2) (hr : lim - d.length < x.length) : blkS bs lim q d = some (.bad 4) := by
  obtain ⟨h0, h1, h3, h5⟩ := blk_head (last := last) hx
  have hl := blk_len last x
  have hlen : bs.length - q = x.length + 5 + rest.length := by rw [← List.length_drop, h, List.length_append, hl]
  have e0 : byteN bs q = last := by rw [show q = q + 0 from rfl, byteN_drop, h, byteN_app (by omega), h0]
  have e1 : nA bs (q + 1) = x.length := by rw [nA_drop, h, nA_app (by omega), h1]
  have e3 : nA bs (q + 3) = 65535 - x.length := by rw [nA_drop, h, nA_app (by omega), h3]
  unfold blkS
  rw [e0, e1, e3, if_neg (by omega), if_neg (by omega), if_neg (by omega), if_neg (by omega), if_neg (by omega), if_neg (by omega)]
theorem blk_cut {bs x d : List Nat} {lim q last m : Nat} (h : bs.drop q = (blkB last x).take m) (hm : m < x.length + 5) (hx : x.length ≤ 65535) (hlast : last < 2) (hr : x.length ≤ lim - d.length) : blkS bs lim q d = some (.bad 3) := by
  obtain ⟨h0, h1, h3, h5⟩ := blk_head (last := last) hx
  have hl := blk_len last x
  have hlen : bs.length - q = m := by rw [← List.length_drop, h, List.length_take, hl]; omega
  unfold blkS
  by_cases m0 : m = 0
  · rw [if_pos (by omega)]
  have e0 : byteN bs q = last := by rw [show q = q + 0 from rfl, byteN_drop, h, byteN_take (by omega), h0]
  rw [e0, if_neg (by omega), if_neg (by omega)]
  by_cases m5 : m < 5
  · rw [if_pos (by omega)]
  have e1 : nA bs (q + 1) = x.length := by rw [nA_drop, h, nA_take (by omega), h1]
  have e3 : nA bs (q + 3) = 65535 - x.length := by rw [nA_drop, h, nA_take (by omega), h3]
  rw [e1, e3, if_neg (by omega), if_neg (by omega), if_neg (by omega), if_pos (by omega)]
theorem infl_ok {bs rest : List Nat} {lim : Nat} : ∀ (f q : Nat) (d cur : List Nat), cur.length < f → bs.drop q = storedB cur ++ rest → cur.length ≤ lim - d.length → inflN bs lim f q d = some (.inr (d ++ cur, q + (storedB cur).length))
  | 0, q, d, cur, hf, _, _ => by omega
  | f + 1, q, d, cur, hf, h, hr => by
    unfold inflN
    rcases Nat.lt_or_ge 65535 cur.length with hb | hs
    · have hx : (cur.take 65535).length = 65535 := by rw [List.length_take]; omega
      rw [stored_more hb, List.append_assoc] at h
      rw [blk_ok h (by omega) (by omega) (by omega), hx]
      rw [show ((0 : Nat) == 1) = false from rfl]
      dsimp only
      have h2 : bs.drop (q + 5 + 65535) = storedB (cur.drop 65535) ++ rest := by
        rw [show q + 5 + 65535 = q + (blkB 0 (cur.take 65535)).length from by rw [blk_len, hx], ← List.drop_drop, h, List.drop_left]
      rw [infl_ok f (q + 5 + 65535) (d ++ cur.take 65535) (cur.drop 65535) (by rw [List.length_drop]; omega) h2 (by rw [List.length_drop, List.length_append, hx]; omega), stored_more hb]
      rw [List.append_assoc, List.take_append_drop, List.length_append, blk_len, hx]
      congr 3
      omega
    · rw [stored_last hs] at h ⊢
      rw [blk_ok h hs (by omega) hr, blk_len]
      rw [show ((1 : Nat) == 1) = true from rfl]
      dsimp only
      congr 3
      omega
theorem infl_big {bs rest : List Nat} {lim : Nat} : ∀ (f q : Nat) (d cur : List Nat), cur.length < f → bs.drop q = storedB cur ++ rest → lim - d.length < cur.length → inflN bs lim f q d = some (.inl 4)
  | 0, q, d, cur, hf, _, _ => by omega
  | f + 1, q, d, cur, hf, h, hr => by
    unfold inflN
    rcases Nat.lt_or_ge 65535 cur.length with hb | hs
    · have hx : (cur.take 65535).length = 65535 := by rw [List.length_take]; omega
      rw [stored_more hb, List.append_assoc] at h
      by_cases hr2 : 65535 ≤ lim - d.length
      · rw [blk_ok h (by omega) (by omega) (by omega), hx]
        rw [show ((0 : Nat) == 1) = false from rfl]
        dsimp only
        have h2 : bs.drop (q + 5 + 65535) = storedB (cur.drop 65535) ++ rest := by
          rw [show q + 5 + 65535 = q + (blkB 0 (cur.take 65535)).length from by rw [blk_len, hx], ← List.drop_drop, h, List.drop_left]
        exact infl_big f (q + 5 + 65535) (d ++ cur.take 65535) (cur.drop 65535) (by rw [List.length_drop]; omega) h2 (by rw [List.length_drop, List.length_append, hx]; omega)
      · rw [blk_big h (by omega) (by omega) (by omega)]
    · rw [stored_last hs] at h
      rw [blk_big h hs (by omega) hr]
theorem infl_cut {bs : List Nat} {lim : Nat} : ∀ (f q : Nat) (d cur : List Nat), cur.length < f → bs.drop q = (storedB cur).take ((storedB cur).length - 1) → cur.length ≤ lim - d.length → inflN bs lim f q d = some (.inl 3)
  | 0, q, d, cur, hf, _, _ => by omega
  | f + 1, q, d, cur, hf, h, hr => by
    unfold inflN
    rcases Nat.lt_or_ge 65535 cur.length with hb | hs
    · have hx : (cur.take 65535).length = 65535 := by rw [List.length_take]; omega
      have hy : (storedB (cur.drop 65535)).length ≠ 0 := fun e => storedB_ne _ (List.length_eq_zero_iff.1 e)
      rw [stored_more hb, List.length_append, blk_len, hx, List.take_append, blk_len, hx, List.take_of_length_le (by rw [blk_len]; omega)] at h
      rw [blk_ok h (by omega) (by omega) (by omega), hx]
      rw [show ((0 : Nat) == 1) = false from rfl]
      dsimp only
      have h2 : bs.drop (q + 5 + 65535) = (storedB (cur.drop 65535)).take ((storedB (cur.drop 65535)).length - 1) := by
        rw [show q + 5 + 65535 = q + (blkB 0 (cur.take 65535)).length from by rw [blk_len, hx], ← List.drop_drop, h, List.drop_left, show 65535 + 5 + (storedB (cur.drop 65535)).length - 1 - (65535 + 5) = (storedB (cur.drop 65535)).length - 1 from by omega]
      exact infl_cut f (q + 5 + 65535) (d ++ cur.take 65535) (cur.drop 65535) (by rw [List.length_drop]; omega) h2 (by rw [List.length_drop, List.length_append, hx]; omega)
    · rw [stored_last hs, blk_len] at h
      rw [blk_cut h (by omega) hs (by omega) hr]

/- THE LAW'S RUN -/
def InflF (call : CallT) (g : Nat) : Prop := ∀ os v bs (lim : Int) r, v.good os.length = true → lookB (few os).look v = some bs → bs ≠ [] → bs.length ≤ 17592186044416 → inflN bs (max 0 lim).toNat (bs.length + 1) 0 [] = some r → call g [v, .int .i64 lim] (few os) = some ((inflA r).2 os.length, few (os ++ (inflA r).1.map some))
theorem infl_fact {call : CallT} {g : Nat} : InflF (withL call g (lawOf (sightRdN inflSpec))) g := by
  intro os v bs lim r hg hb h1 h2 hr
  rw [sightN_call (by simp [goods, hg, few_next, V.good])]
  unfold inflSpec
  dsimp only
  rw [hb]
  dsimp only
  rw [if_pos ⟨h1, h2⟩, hr]
  exact lawOut_few
theorem InflF.other {call : CallT} {n g : Nat} {l : List V → St → Option (V × St)} (h : InflF call n) (hne : n ≠ g) : InflF (withL call g l) n := fun os v bs lim r a b c d e => by rw [withL_other hne]; exact h os v bs lim r a b c d e
theorem InflF.withF {call : CallT} {n g lf : Nat} {fn : AFunc} (h : InflF call n) (hne : n ≠ g) : InflF (Vabs.withF call g lf fn) n := fun os v bs lim r a b c d e => by rw [withF_other hne]; exact h os v bs lim r a b c d e
/-- What inflated bytes are in memory. -/
def outV (d : List Nat) (k : Nat) : V := if d = [] then .slice none 0 0 0 true else .slice (some (k, 0)) 1 d.length d.length false
noncomputable def outO (d : List Nat) : List (Option AObj) := if d = [] then [] else [some (newBytes d)]
theorem inflA_r (d : List Nat) (q k : Nat) : (inflA (.inr (d, q))).2 k = .tuple [outV d k, .int .i64 (q : Int), .int .i64 0] ∧ (inflA (.inr (d, q))).1.map some = outO d := by
  unfold inflA outV outO
  dsimp only
  split <;> exact ⟨rfl, rfl⟩
theorem out_str {os : List (Option AObj)} {d : List Nat} (hb : ∀ b ∈ d, b < 256) : convV (few (os ++ outO d)) .toStr (outV d os.length) = some (.str d) := by
  unfold outV outO
  by_cases h : d = []
  · rw [if_pos h, if_pos h, h]; rfl
  · rw [if_neg h, if_neg h]
    have hp : ((os ++ [some (newBytes d)])[os.length]?).join = some (newBytes d) := by simp
    have := str_part (f := false) (c := d.length) hp (n := d.length) (m := d.length) (o := 0) (bs := d) (by rw [bytesV_len]; omega) (by rw [List.drop_zero, bytesV_take, List.take_length]) hb 0 (by omega)
    rw [List.drop_zero, List.take_length] at this
    exact this
theorem bytes_str {st : St} {v : V} {bs : List Nat} (h : bytesAt st v = some bs) : convV st .toStr v = some (.str bs) := by
  have hb := bytesAt_lt h
  obtain ⟨h1, h2⟩ := first_bytes h
  cases v with
  | slice a e n c f =>
    have hn : n = bs.length := by
      have h1 : some n = some bs.length := h1
      exact Option.some.inj h1
    subst hn
    cases a with
    | none =>
      have h2 : some [] = some (bytesV bs) := h2
      have : bs = [] := by
        cases bs with
        | nil => rfl
        | cons x l => cases h2
      subst this
      rfl
    | some p =>
      obtain ⟨i, o⟩ := p
      have h2 : sel (Nat.beq 1 e && Nat.ble bs.length bs.length) (st.loadN i o (bs.length * 1)) none = some (bytesV bs) := h2
      obtain ⟨h3, h4⟩ := sel_some h2
      rw [Bool.and_eq_true, Nat.beq_eq] at h3
      have he : e = 1 := h3.1.symm
      subst he
      show sel (Nat.beq 1 1) (match st.loadN i o bs.length with | some cs => (bytesOf cs).map V.str | none => none) none = _
      rw [Nat.mul_one] at h4
      rw [h4, Nat.beq_refl, sel_true]
      dsimp only
      rw [bytesOf_of hb]
      rfl
  | str s =>
    exfalso
    unfold bytesAt at h
    cases h
  | _ => cases h1
noncomputable def mksV (st : St) (e bytes : Nat) (zs : List V) : Option Nat → Option Nat → Option (V × St)
  | some l, some c => sel (Nat.ble l c && Nat.ble (bytes * c) 281474976710656 && Nat.blt c w63) (match st.alloc (.cells true (repN c zs)) with | some (j, st') => some (.slice (some (j, 0)) e l c true, st') | none => none) none
  | _, _ => none
theorem step_mkslice {call : CallT} {s : Env} {st : St} {e bytes : Nat} {zs : List V} {l c : Src} : stepE call (.mkslice e bytes zs l c) s st = mksV st e bytes zs (natOf (s.ev l)) (natOf (s.ev c)) := by
  show (match ex_mkslice e bytes zs l c s.ev st with | some (.val v, st') => _ | some (.enter g args, st') => _ | none => _) = _
  unfold ex_mkslice mksV
  cases natOf (s.ev l) with
  | none => rfl
  | some l' =>
    cases natOf (s.ev c) with
    | none => rfl
    | some c' =>
      dsimp only
      cases Nat.ble l' c' && Nat.ble (bytes * c') 281474976710656 && Nat.blt c' w63 with
      | false => rfl
      | true =>
        dsimp only [sel_true]
        cases st.alloc (.cells true (repN c' zs)) with
        | none => rfl
        | some p => rfl
theorem mks_few {os : List (Option AObj)} {m : Nat} (h : m < 281474976710656) : mksV (few os) 1 1 [.int .u8 0] (some m) (some m) = some (.slice (some (os.length, 0)) 1 m m true, few (os ++ [some (newBytes (List.replicate m 0))])) := by
  show sel (Nat.ble m m && Nat.ble (1 * m) 281474976710656 && Nat.blt m w63) (match (few os).alloc (.cells true (repN m [.int .u8 (.ofNat 0)])) with | some (j, st') => some (V.slice (some (j, 0)) 1 m m true, st') | none => none) none = _
  rw [ble_t (Nat.le_refl _), ble_t (by omega), blt_t (show m < w63 from by unfold w63; omega), few_alloc, repN_zero]
  rfl
theorem lenOf_sl {a : Option (Nat × Nat)} {e n c : Nat} {f : Bool} : lenOf (.slice a e n c f) = some n := rfl
theorem firstNo_some {st : St} {e m : Nat} {v : V} : firstNo st e (some m) v = firstN st e m v := rfl
def pre1 : ACode → ACode
  | .seq a _ => a
  | c => c
def pre2 : ACode → ACode
  | .seq _ (.seq b _) => b
  | c => c
def tail2 : ACode → ACode
  | .seq _ (.seq _ c) => c
  | c => c
theorem stored_ge : ∀ (k : Nat) (bs : List Nat), bs.length ≤ k → bs.length + 5 ≤ (storedB bs).length
  | k, bs, hk => by
    rcases Nat.lt_or_ge 65535 bs.length with h | h
    · cases k with
      | zero => omega
      | succ k =>
        have ih := stored_ge k (bs.drop 65535) (by rw [List.length_drop]; omega)
        rw [stored_more h, List.length_append, blk_len, List.length_take]
        rw [List.length_drop] at ih
        omega
    · rw [stored_last h, blk_len]
      omega
theorem blk_lt {last : Nat} {x : List Nat} (hl : last < 256) (h : ∀ b ∈ x, b < 256) : ∀ b ∈ blkB last x, b < 256 := by
  intro b hb
  unfold blkB blkH at hb
  rcases List.mem_append.1 hb with h1 | h1
  · simp only [List.mem_cons, List.not_mem_nil, or_false] at h1
    omega
  · exact h b h1
theorem stored_lt : ∀ (k : Nat) (bs : List Nat), bs.length ≤ k → (∀ b ∈ bs, b < 256) → ∀ b ∈ storedB bs, b < 256
  | k, bs, hk, hb => by
    rcases Nat.lt_or_ge 65535 bs.length with h | h
    · cases k with
      | zero => omega
      | succ k =>
        have ih := stored_lt k (bs.drop 65535) (by rw [List.length_drop]; omega) (fun b h => hb b (List.mem_of_mem_drop h))
        rw [stored_more h]
        intro b hm
        rcases List.mem_append.1 hm with h1 | h1
        · exact blk_lt (by omega) (fun b h => hb b (List.mem_of_mem_take h)) b h1
        · exact ih b h1
    · rw [stored_last h]
      exact blk_lt (by omega) hb
set_option maxHeartbeats 1000000 in
theorem Rest_wp {call : CallT} {lf nP nS nI nK : Nat} (hS : StoredLF call nS) (hI : InflF call nI) (hK : ∀ st, call nK [] st = some (.bool true, st))
    {os : List (Option AObj)} {s : Env} {v w : V} {bs cs : List Nat} (hg : v.good os.length = true) (hv : lookB (few os).look v = some bs) (hw : lookB (few os).look w = some cs) (hl : bs.length ≤ 1099511627776) (hl' : cs.length ≤ 1099511627776) (s1 : s .h = v) (s2 : s (.i .h) = w) :
    wp call lf (tail2 (FlateStored_c nP nS nI nK).code) s (few os) (finQ [.tmp (.i (.i .h))] fun r _ => r = .bool true) := by
  have hb := bytesAt_lt (lookB_at hv)
  obtain ⟨Z, hZ⟩ : ∃ Z, Z = storedB bs := ⟨_, rfl⟩
  have hZl := stored_len bs.length bs (Nat.le_refl _)
  have hZ0 := storedB_ne bs
  have c1 := hS os v bs hg hv hl
  rw [← hZ] at c1 hZl hZ0
  obtain ⟨z, hz⟩ : ∃ z, z = Z.length := ⟨_, rfl⟩
  have hz0 : 0 < z := by rw [hz]; exact List.length_pos_iff.2 hZ0
  rw [← hz] at c1 hZl
  obtain ⟨A, hA⟩ : ∃ A, A = os ++ [some (newBytes Z)] := ⟨_, rfl⟩
  have hAl : A.length = os.length + 1 := by rw [hA]; simp
  rw [← hA] at c1
  obtain ⟨B, hB⟩ : ∃ B, B = A ++ [some (newBytes [])] := ⟨_, rfl⟩
  have hBl : B.length = os.length + 2 := by rw [hB]; simp [hAl]
  have alB : (few A).alloc (.cells true []) = some (os.length + 1, few B) := by rw [hB, few_alloc, hAl]; rfl
  have hBo : ∀ i, i < os.length → (B[i]?).join = (os[i]?).join := fun i hi => by rw [hB, hA, List.append_assoc, join_app hi]
  have hBZ : (B[os.length]?).join = some (newBytes Z) := by rw [hB, join_app (by omega), hA]; simp
  have hBn : (B[os.length + 1]?).join = some (newBytes []) := by rw [hB, ← hAl]; simp
  have f1 : firstN (few B) 1 z (.slice (some (os.length, 0)) 1 z z false) = some (bytesV Z) := by
    show sel (Nat.beq 1 1 && Nat.ble z z) ((few B).loadN _ _ (z * 1)) none = _
    rw [loadN_few hBZ (by rw [bytesV_len]; omega), List.drop_zero, List.take_of_length_le (by rw [bytesV_len]; omega), ble_t (Nat.le_refl _)]
    rfl
  obtain ⟨C, hC⟩ : ∃ C, C = B ++ [some (newBytes Z)] := ⟨_, rfl⟩
  have hCl : C.length = os.length + 3 := by rw [hC]; simp [hBl]
  have g1 : appendV (few B) 1 1 (.slice (some (os.length + 1, 0)) 1 0 0 true) (some z) (some (bytesV Z)) = some (.slice (some (os.length + 2, 0)) 1 z z false, few C) := by
    obtain ⟨m, hm⟩ : ∃ m, z = m + 1 := ⟨z - 1, by omega⟩
    have := grow_fix (n := 0) (c := 0) (m := m) (new := bytesV Z) hBn rfl (by rw [bytesV_len]; omega) (by omega)
    rw [Nat.zero_add, ← hm, hBl] at this
    rw [show (newBytes Z : AObj) = .cells true (bytesV Z) from rfl] at hC
    rw [hC]
    exact this
  have hCo : ∀ i, i < os.length + 2 → (C[i]?).join = (B[i]?).join := fun i hi => by rw [hC, join_app (by omega)]
  have hCp : (C[os.length + 2]?).join = some (newBytes Z) := by rw [hC, ← hBl]; simp
  have hwC := look_keep (os' := C) (fun i hi => by rw [hCo i (by omega), hBo i hi]) (by omega) hw
  obtain ⟨w1, w2⟩ := first_bytes (lookB_at hwC)
  obtain ⟨p, D, g2, G⟩ := growB (nb := cs) hCp (by omega)
  rw [← hz] at g2
  have hDo : ∀ i, i < os.length + 2 → (D[i]?).join = (C[i]?).join := fun i hi => G.old i (by omega) (by omega)
  have hDl := G.len
  have hvD := look_keep (os' := D) (fun i hi => by rw [hDo i (by omega), hCo i (by omega), hBo i hi]) (by omega) hv
  have hZb : ∀ b ∈ Z, b < 256 := by rw [hZ]; exact stored_lt _ _ (Nat.le_refl _) hb
  have hge : bs.length + 5 ≤ z := by rw [hz, hZ]; exact stored_ge _ _ (Nat.le_refl _)
  have hcb := bytesAt_lt (lookB_at hw)
  have hpl := join_lt G.at'
  have look1 : lookB (few D).look (.slice (some (p, 0)) 1 (z + cs.length) (z + cs.length) false) = some (Z ++ cs) := by
    refine lookB_of (by rw [few_next]; exact hpl) (by rw [few_get]; exact G.at') goods_bytes' (Nat.le_refl _) (by rw [bytesV_len, List.length_append]; omega) ?_ (fun b hb => ?_)
    · rw [List.drop_zero, List.take_of_length_le (by rw [bytesV_len, List.length_append]; omega)]
    · rcases List.mem_append.1 hb with h | h
      · exact hZb b h
      · exact hcb b h
  have r1 : inflN (Z ++ cs) (max 0 (bs.length : Int)).toNat ((Z ++ cs).length + 1) 0 [] = some (.inr (bs, z)) := by
    have := infl_ok (bs := Z ++ cs) (rest := cs) (lim := (max 0 (bs.length : Int)).toNat) ((Z ++ cs).length + 1) 0 [] bs (by rw [List.length_append, ← hz]; omega) (by rw [List.drop_zero, hZ]) (by simp)
    rw [this, ← hZ, hz, List.nil_append, Nat.zero_add]
  have c2 := hI D _ _ (bs.length : Int) _ (by simp only [V.good, Nat.blt_eq]; exact hpl) look1 (by simp [hZ0]) (by rw [List.length_append]; omega) r1
  rw [(inflA_r bs z D.length).1, (inflA_r bs z 0).2] at c2
  obtain ⟨E, hE⟩ : ∃ E, E = D ++ outO bs := ⟨_, rfl⟩
  have hstr := out_str (os := D) hb
  rw [← hE] at c2 hstr
  have hEo : ∀ i, i < D.length → (E[i]?).join = (D[i]?).join := fun i hi => by rw [hE, join_app hi]
  have hEZ : (E[os.length]?).join = some (newBytes Z) := by rw [hEo _ (by omega), hDo _ (by omega), hCo _ (by omega), hBZ]
  have hEl : D.length ≤ E.length := by rw [hE]; simp
  obtain ⟨y, hy⟩ : ∃ y, z = y + 1 := ⟨z - 1, by omega⟩
  have mm : mmAll true (.int .i64 0) [.int .i64 ((z : Int) - 1)] = some (.int .i64 (y : Int)) := by
    rw [mm_max, show max 0 ((z : Int) - 1) = (y : Int) from by omega]
  have sl : sliceOp (.slice 1) (.slice (some (os.length, 0)) 1 z z false) none (some (.int .i64 (y : Int))) none = some (.slice (some (os.length, 0)) 1 y z false) := slice_hiF (by omega) (by omega) (by omega)
  have lookE : ∀ m, m ≤ z → lookB (few E).look (.slice (some (os.length, 0)) 1 m z false) = some (Z.take m) := fun m hm => by
    refine lookB_of (by rw [few_next]; omega) (by rw [few_get]; exact hEZ) goods_bytes' hm (by rw [bytesV_len]; omega) ?_ (fun b hb => hZb b (List.mem_of_mem_take hb))
    rw [List.drop_zero, bytesV_take]
  have gE : ∀ m, (V.slice (some (os.length, 0)) 1 m z false).good E.length = true := fun m => by simp only [V.good, Nat.blt_eq]; omega
  have r2 : inflN (Z.take y) (max 0 (bs.length : Int)).toNat ((Z.take y).length + 1) 0 [] = some (.inl 3) :=
    infl_cut _ 0 [] bs (by rw [List.length_take, ← hz]; omega) (by rw [List.drop_zero, ← hZ, ← hz, show z - 1 = y from by omega]) (by simp)
  have c3 := hI E _ _ (bs.length : Int) _ (gE y) (lookE y (by omega)) (fun e => by have := congrArg List.length e; rw [List.length_take, ← hz] at this; simp at this; omega) (by rw [List.length_take]; omega) r2
  have c3 : call nI [.slice (some (os.length, 0)) 1 y z false, .int .i64 (bs.length : Int)] (few E) = some (.tuple [.slice none 0 0 0 true, .int .i64 0, .int .i64 3], few E) := by
    rw [c3]
    show some (_, few (E ++ [])) = _
    rw [List.append_nil]
    rfl
  have lookZ := lookE z (Nat.le_refl _)
  rw [List.take_of_length_le (by omega)] at lookZ
  obtain ⟨n, hn⟩ : ∃ n, n = bs.length := ⟨_, rfl⟩
  have hlv : lenV (few E) .slice v = some (.int .i64 (n : Int)) := by rw [hn]; exact len_bytes (lookB_at hvD)
  have hlv' : ∀ st, lenV st .slice v = some (.int .i64 (n : Int)) := fun st => by rw [hn]; exact len_bytes (lookB_at hvD)
  have hvE := look_keep (os' := E) hEo hEl hvD
  have sv := bytes_str (lookB_at hvE)
  by_cases hbs : bs = []
  · have r3 : inflN Z (max 0 ((bs.length : Int) - 1)).toNat (Z.length + 1) 0 [] = some (.inr (bs, z)) := by
      have := infl_ok (bs := Z) (rest := []) (lim := (max 0 ((bs.length : Int) - 1)).toNat) (Z.length + 1) 0 [] bs (by omega) (by rw [List.drop_zero, List.append_nil, hZ]) (by rw [hbs]; simp)
      rw [this, ← hZ, hz, List.nil_append, Nat.zero_add]
    have c4 := hI E _ _ ((bs.length : Int) - 1) _ (gE z) lookZ hZ0 (by omega) r3
    rw [(inflA_r bs z E.length).1, (inflA_r bs z 0).2] at c4
    have e0 : outO bs = [] := if_pos hbs
    have e1 : ∀ k, outV bs k = .slice none 0 0 0 true := fun k => if_pos hbs
    rw [e0, List.append_nil, e1] at c4
    rw [← hn] at c2 c3 c4
    have dn : decide (n = 0) = true := decide_eq_true (by rw [hn, hbs]; rfl)
    unfold FlateStored_c tail2
    dsimp only
    simp (disch := omega) [s1, s2, c1, alB, lenOf_sl, firstNo_some, f1, g1, w1, w2, g2, hlv', c2, mm, sl, c3, c4, hK, hstr, sv, wrap_i, dn]
  · have r3 : inflN Z (max 0 ((bs.length : Int) - 1)).toNat (Z.length + 1) 0 [] = some (.inl 4) :=
      infl_big (rest := []) _ 0 [] bs (by omega) (by rw [List.drop_zero, List.append_nil, hZ]) (by have := List.length_pos_iff.2 hbs; simp; omega)
    have c4 := hI E _ _ ((bs.length : Int) - 1) _ (gE z) lookZ hZ0 (by omega) r3
    have c4 : call nI [.slice (some (os.length, 0)) 1 z z false, .int .i64 ((bs.length : Int) - 1)] (few E) = some (.tuple [.slice none 0 0 0 true, .int .i64 0, .int .i64 4], few E) := by
      rw [c4]
      show some (_, few (E ++ [])) = _
      rw [List.append_nil]
      rfl
    rw [← hn] at c2 c3 c4
    have dn : decide (n = 0) = false := decide_eq_false (by rw [hn]; have := List.length_pos_iff.2 hbs; omega)
    unfold FlateStored_c tail2
    dsimp only
    simp (disch := omega) [s1, s2, c1, alB, lenOf_sl, firstNo_some, f1, g1, w1, w2, g2, hlv', c2, mm, sl, c3, c4, hK, hstr, sv, wrap_i, dn]

theorem bytes_join {st : St} {v : V} {bs : List Nat} (h : bytesAt st v = some bs) : lenOf v = some bs.length ∧ firstN st 1 bs.length v = some (bytesV bs) := first_bytes h
set_option maxHeartbeats 1000000 in
theorem Law_run {call : CallT} {lf nP nS nI nK : Nat} (hP : PickF call nP) (hS : StoredLF call nS) (hI : InflF call nI) (hK : ∀ st, call nK [] st = some (.bool true, st))
    {nil nil' : Bool} {bs cs : List Nat} {x : Int} (hn : nil = true → bs = []) (hn' : nil' = true → cs = []) (hb : ∀ b ∈ bs, b < 256) (hc : ∀ b ∈ cs, b < 256) (hx : -9223372036854775808 ≤ x ∧ x < 9223372036854775808) (hl : bs.length ≤ 549755813888) (hl' : cs.length ≤ 1099511627776) :
    ∃ s1, enterF call lf [slAt nil 0 bs.length, .int .i64 x, slAt nil' 1 cs.length] (few [objOf nil (bytesV bs), objOf nil' (bytesV cs)]) (FlateStored_c nP nS nI nK) = some (.bool true, s1) := by
  have main := enter_wp (call := call) (lf := lf) (n := 93) (args := [slAt nil 0 bs.length, .int .i64 x, slAt nil' 1 cs.length]) (st := few [objOf nil (bytesV bs), objOf nil' (bytesV cs)]) (K := fun r _ => r = .bool true) (c := (FlateStored_c nP nS nI nK).code) (rs := (FlateStored_c nP nS nI nK).results) ?_
  · obtain ⟨w, st', h1, rfl⟩ := main
    exact ⟨st', h1⟩
  · obtain ⟨O, hO⟩ : ∃ O, O = [objOf nil (bytesV bs), objOf nil' (bytesV cs)] := ⟨_, rfl⟩
    have hOl : O.length = 2 := by rw [hO]; rfl
    have hv : lookB (few O).look (slAt nil 0 bs.length) = some bs := by
      cases nil with
      | true => rw [hn rfl]; rfl
      | false =>
        refine lookB_of (own := false) (cs := bytesV bs) (by rw [few_next]; omega) (by rw [few_get, hO]; rfl) goods_bytes' (Nat.le_refl _) (by rw [bytesV_len]; omega) ?_ hb
        rw [List.drop_zero, List.take_of_length_le (by rw [bytesV_len]; omega)]
    have hw : lookB (few O).look (slAt nil' 1 cs.length) = some cs := by
      cases nil' with
      | true => rw [hn' rfl]; rfl
      | false =>
        refine lookB_of (own := false) (cs := bytesV cs) (by rw [few_next]; omega) (by rw [few_get, hO]; rfl) goods_bytes' (Nat.le_refl _) (by rw [bytesV_len]; omega) ?_ hc
        rw [List.drop_zero, List.take_of_length_le (by rw [bytesV_len]; omega)]
    have gv : (slAt nil 0 bs.length).good O.length = true := by
      cases nil with
      | true => rfl
      | false => simp only [slAt, V.good, Nat.blt_eq]; simp [hOl]
    rw [← hO]
    obtain ⟨v, hve⟩ : ∃ v, v = slAt nil 0 bs.length := ⟨_, rfl⟩
    obtain ⟨w, hwe⟩ : ∃ w, w = slAt nil' 1 cs.length := ⟨_, rfl⟩
    rw [← hve] at hv gv ⊢
    rw [← hwe] at hw ⊢
    have Re := fun {O' : List (Option AObj)} {s' : Env} {v' : V} {bs' : List Nat} => @Rest_wp call lf nP nS nI nK hS hI hK O' s' v' w bs' cs
    obtain ⟨T, hT⟩ : ∃ T, T = tail2 (FlateStored_c nP nS nI nK).code := ⟨_, rfl⟩
    rw [← hT] at Re
    have hcode : (FlateStored_c nP nS nI nK).code = .seq (pre1 (FlateStored_c nP nS nI nK).code) (.seq (pre2 (FlateStored_c nP nS nI nK).code) T) := by rw [hT]; rfl
    rw [hcode]
    unfold FlateStored_c pre1 pre2
    dsimp only
    by_cases hq : Int.tmod x 13 = 12
    · obtain ⟨p1, p2⟩ := pickI_lt (n := x) (m := 20) (by omega)
      have c1 := hP x 20 (few O) (by omega) (by omega)
      obtain ⟨p, hp⟩ : ∃ p : Nat, pickI x 20 = (p : Int) := ⟨(pickI x 20).toNat, by omega⟩
      rw [hp] at c1 p2
      obtain ⟨m, hm⟩ : ∃ m, m = 65530 + p := ⟨_, rfl⟩
      have hnat : natOf (.int .i64 (65530 + (p : Int))) = some m := by rw [natOf_int (by omega)]; congr 1; omega
      have hmk := mks_few (os := O) (m := m) (by omega)
      obtain ⟨A, hA⟩ : ∃ A, A = O ++ [some (newBytes (List.replicate m 0))] := ⟨_, rfl⟩
      rw [← hA] at hmk
      have hAl : A.length = O.length + 1 := by rw [hA]; simp
      have hAo : ∀ i, i < O.length → (A[i]?).join = (O[i]?).join := fun i hi => by rw [hA, join_app hi]
      have hAp : (A[O.length]?).join = some (newBytes (List.replicate m 0)) := by rw [hA]; simp
      have hvA := look_keep hAo (by omega) hv
      have hwA := look_keep hAo (by omega) hw
      obtain ⟨w1, w2⟩ := first_bytes (lookB_at hvA)
      by_cases hbs : bs = []
      · subst hbs
        have g : appendV (few A) 1 1 (.slice (some (O.length, 0)) 1 m m true) (some 0) (some (bytesV [])) = some (.slice (some (O.length, 0)) 1 m m true, few A) := rfl
        have w1 : lenOf v = some 0 := w1
        have w2 : firstN (few A) 1 0 v = some (bytesV []) := w2
        simp (disch := omega) [bin_rem, hq, c1, wrap_i, step_mkslice, hnat, hmk, w1, w2, firstNo_some, g]
        refine Re (v' := .slice (some (O.length, 0)) 1 m m true) (bs' := List.replicate m 0) ?_ ?_ hwA (by rw [List.length_replicate]; omega) hl' ?_ ?_
        rotate_right 2
        · simp
        · simp
        · simp only [V.good, Nat.blt_eq]; omega
        · refine lookB_of (own := true) (cs := bytesV (List.replicate m 0)) (by rw [few_next]; omega) (by rw [few_get]; exact hAp) goods_bytes' (Nat.le_refl _) (by rw [bytesV_len, List.length_replicate]; omega) ?_ (fun b hb => ?_)
          · rw [List.drop_zero, List.take_of_length_le (by rw [bytesV_len, List.length_replicate]; omega)]
          · rw [List.eq_of_mem_replicate hb]; omega
      · obtain ⟨k, hk⟩ : ∃ k, bs.length = k + 1 := ⟨bs.length - 1, by have := List.length_pos_iff.2 hbs; omega⟩
        have g := grow_fix (n := m) (c := m) (m := k) (new := bytesV bs) hAp (by rw [bytesV_len, List.length_replicate]) (by rw [bytesV_len, hk]) (by omega)
        rw [← hk, hAl] at g
        obtain ⟨B, hB⟩ : ∃ B, B = A ++ [some (.cells true (bytesV (List.replicate m 0) ++ bytesV bs))] := ⟨_, rfl⟩
        have hBl : B.length = O.length + 2 := by rw [hB]; simp [hAl]
        have hBp : (B[O.length + 1]?).join = some (.cells true (bytesV (List.replicate m 0 ++ bs))) := by rw [hB, ← hAl]; simp [bytesV]
        have hwB := look_keep (os' := B) (fun i hi => by rw [hB, join_app hi]) (by omega) hwA
        rw [← hB] at g
        simp (disch := omega) [bin_rem, hq, c1, wrap_i, step_mkslice, hnat, hmk, w1, w2, firstNo_some, g]
        refine Re (v' := .slice (some (O.length + 1, 0)) 1 (m + bs.length) (m + bs.length) false) (bs' := List.replicate m 0 ++ bs) ?_ ?_ hwB (by rw [List.length_append, List.length_replicate]; omega) hl' ?_ ?_
        rotate_right 2
        · simp
        · simp
        · simp only [V.good, Nat.blt_eq]; omega
        · refine lookB_of (by rw [few_next]; omega) (by rw [few_get]; exact hBp) goods_bytes' (by omega) (by rw [bytesV_len, List.length_append, List.length_replicate]; omega) ?_ (fun b hm' => ?_)
          · rw [List.drop_zero, List.take_of_length_le (by rw [bytesV_len, List.length_append, List.length_replicate]; omega)]
          · rcases List.mem_append.1 hm' with h | h
            · rw [List.eq_of_mem_replicate h]; omega
            · exact hb b h
    · simp (disch := omega) [bin_rem, hq]
      exact Re gv hv hw (by omega) hl' (by simp) (by simp)
theorem PutF.withF {call : CallT} {n g lf : Nat} {fn : AFunc} (h : PutF call n) (hne : n ≠ g) : PutF (Vabs.withF call g lf fn) n := fun os os' c R X sv ov bs p d lim b a1 a2 a3 => by rw [withF_other hne]; exact h os os' c R X sv ov bs p d lim b a1 a2 a3
theorem StoredF.withF {call : CallT} {n g lf : Nat} {fn : AFunc} (h : StoredF call n) (hne : n ≠ g) : StoredF (Vabs.withF call g lf fn) n := fun os os' c R X sv ov bs q d lim a1 a2 a3 a4 => by rw [withF_other hne]; exact h os os' c R X sv ov bs q d lim a1 a2 a3 a4
theorem BlkF.withF {call : CallT} {n g lf : Nat} {fn : AFunc} (h : BlkF call n) (hne : n ≠ g) : BlkF (Vabs.withF call g lf fn) n := fun os os' c R X sv ov bs q d lim r a1 a2 a3 a4 => by rw [withF_other hne]; exact h os os' c R X sv ov bs q d lim r a1 a2 a3 a4
theorem NewBF.withF {call : CallT} {n g lf : Nat} {fn : AFunc} (h : NewBF call n) (hne : n ≠ g) : NewBF (Vabs.withF call g lf fn) n := fun os v bs a1 a2 a3 => by rw [withF_other hne]; exact h os v bs a1 a2 a3

end Go.Vabs.Sk
