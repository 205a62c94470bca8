/-
  Bytes that grow, big-endian numbers, a font s tables.
-/
import Derived.Test.YtpbafimkplhknaaVabsSb
namespace Go.Vabs.Sc
set_option linter.unusedVariables false
set_option linter.unusedSimpArgs false
set_option maxRecDepth 10000
def Big_c : AFunc := AFunc.mk 23 (.seq (.reg [AOper.mk (some (.i (.o .h))) (.mv (.c (.slice none 0 0 0 true))) none]) (.seq (.reg [AOper.mk (some (.o (.i .h))) (.mv (.c (.slice none 0 0 0 true))) none]) (.seq (.seq (.reg [AOper.mk (some (.i (.o (.o .h)))) (.bin .sub (.val .int) (.t (.o .h)) (.c (.int .i64 (.ofNat 1)))) none, AOper.mk (some (.i (.i .h))) (.mv (.t (.i (.o (.o .h))))) none]) (.block 0 (.loop (.seq (.seq (.reg [AOper.mk (some (.i (.i (.o .h)))) (.bin .geq (.val .int) (.t (.i (.i .h))) (.c (.int .i64 (.ofNat 0)))) none]) (.cond (.t (.i (.i (.o .h)))) .skip (.exit 0))) (.seq (.block 1 (.reg [AOper.mk (some (.i (.o (.o (.o .h))))) (.bin .mul (.val .int) (.c (.int .i64 (.ofNat 8))) (.t (.i (.i .h)))) none, AOper.mk (some (.o (.i (.o (.o .h))))) (.conv (.int .u64) (.t (.i (.o (.o (.o .h)))))) none, AOper.mk (some (.i (.i (.o (.o .h))))) (.bin .shr (.val .int) (.t .h) (.t (.o (.i (.o (.o .h)))))) none, AOper.mk (some (.o (.o (.i (.o .h))))) (.conv (.int .u8) (.t (.i (.i (.o (.o .h)))))) none, AOper.mk (some (.i (.o (.i (.o .h))))) (.bslice 1 1 [.int .u8 (.ofNat 0)] [(0, (1, .t (.o (.o (.i (.o .h))))))]) none, AOper.mk (some (.o (.i (.i (.o .h))))) (.append 1 1 (.t (.o (.i .h))) (.t (.i (.o (.i (.o .h)))))) none, AOper.mk (some (.o (.i .h))) (.mv (.t (.o (.i (.i (.o .h)))))) none])) (.reg [AOper.mk (some (.i (.o (.i .h)))) (.bin .sub (.val .int) (.t (.i (.i .h))) (.c (.int .i64 (.ofNat 1)))) none, AOper.mk (some (.i (.i .h))) (.mv (.t (.i (.o (.i .h))))) none])))))) (.seq (.reg [AOper.mk (some (.i (.o .h))) (.mv (.t (.o (.i .h)))) none]) .ret)))) [.tmp (.i (.o .h))]
def Table_c (n_Clone : Nat) : AFunc := AFunc.mk 20 (.seq (.reg [AOper.mk (some (.i (.o .h))) (.mv (.c (.slice none 0 0 0 true))) none, AOper.mk (some (.o (.i .h))) (.mv (.c (.bool false))) none]) (.seq (.reg [AOper.mk (some (.i (.i (.o .h)))) (.nilchk (.t .h)) none, AOper.mk (some (.o (.o (.i .h)))) (.fieldAddr 1 (.t (.i (.i (.o .h))))) none, AOper.mk (some (.i (.o (.i .h)))) (.load false 1 (.t (.o (.o (.i .h))))) none, AOper.mk (some (.i (.i (.i .h)))) (.lookup none (.slice none 0 0 0 true) (.t (.i (.o (.i .h)))) (.t (.o .h)) true) none, AOper.mk (some (.o (.o (.o (.o .h))))) (.extract (.t (.i (.i (.i .h)))) 0) none, AOper.mk (some (.i (.o (.o (.o .h))))) (.extract (.t (.i (.i (.i .h)))) 1) none, AOper.mk (some (.i (.i .h))) (.mv (.t (.o (.o (.o (.o .h)))))) none, AOper.mk (some (.o (.o (.o .h)))) (.mv (.t (.i (.o (.o (.o .h)))))) none]) (.seq (.reg [AOper.mk (some (.i (.i (.o (.o .h))))) (.call n_Clone [.t (.i (.i .h))]) none, AOper.mk (some (.i (.o .h))) (.mv (.t (.i (.i (.o (.o .h)))))) none, AOper.mk (some (.o (.i .h))) (.mv (.t (.o (.o (.o .h))))) none]) .ret))) [.tmp (.i (.o .h)), .tmp (.o (.i .h))]
def Tags_c (n_CloneS : Nat) : AFunc := AFunc.mk 8 (.seq (.reg [AOper.mk (some (.i .h)) (.mv (.c (.slice none 0 0 0 true))) none]) (.seq (.reg [AOper.mk (some (.i (.o .h))) (.nilchk (.t .h)) none, AOper.mk (some (.o (.i .h))) (.fieldAddr 0 (.t (.i (.o .h)))) none, AOper.mk (some (.i (.i .h))) (.load false 1 (.t (.o (.i .h)))) none, AOper.mk (some (.o (.o (.o .h)))) (.call n_CloneS [.t (.i (.i .h))]) none, AOper.mk (some (.i .h)) (.mv (.t (.o (.o (.o .h))))) none]) .ret)) [.tmp (.i .h)]
def CloneS_c : AFunc := AFunc.mk 8 (.seq (.reg [AOper.mk (some (.i .h)) (.mv (.c (.slice none 0 0 0 true))) none]) (.seq (.seq (.reg [AOper.mk (some (.i (.o .h))) (.bin .eql (.nils .slice) (.t .h) (.c (.slice none 0 0 0 true))) none]) (.cond (.t (.i (.o .h))) (.seq (.reg [AOper.mk (some (.i .h)) (.mv (.c (.slice none 0 0 0 true))) none]) .ret) .skip)) (.seq (.reg [AOper.mk (some (.o (.i .h))) (.bslice 1 0 [.str []] []) none, AOper.mk (some (.o (.o (.o .h)))) (.append 1 16 (.t (.o (.i .h))) (.t .h)) none, AOper.mk (some (.i .h)) (.mv (.t (.o (.o (.o .h))))) none]) .ret))) [.tmp (.i .h)]
attribute [local simp] wp_skip wp_ret wp_exit wp_reg wp_seq wp_cond wp_block thenQ_normal thenQ_ret thenQ_exit blockQ_normal blockQ_ret blockQ_exit wpCond_true wpCond_false wpOps_nil wpVal_some wpGuard_true wpGuard_false wpOps_guard wpOps_cons
  put_at put_no ev_c ev_slot posEq_h posEq_o posEq_i posEq_ho posEq_hi posEq_oh posEq_ih posEq_oi posEq_io sel_true sel_false
  okv_some step_mv step_call step_pick pickV_bool step_bin bin_add bin_sub bin_mul bin_eql bin_neq bin_lss bin_leq bin_gtr bin_geq bin_eqb bin_neb bin_eqs bin_nes step_un un_not un_neg step_len len_slice len_str len_const step_extract extractV nth step_convInt conv_int step_convStr step_slice step_idxAddr natOf_nat step_load step_index step_field step_fieldAddr step_build step_minmax
  step_alloc step_bslice bsliceV_some newV_some step_store step_append boolIs_b boolIs_t finQ_ret finQ_normal ressE_nil ressE_cons resE_tmp consO_some initE_nil initE_cons pos_0 pos_1 pos_2 pos_3 pos_4 pos_5 pos_6 pos_7 pos_8 plain_bool plain_int plain_str plain_ptr plain_slice plain_map plain_agg plain_func plain_nilFunc V.undef oneOf_one oneOf_two ble_self
open Go.Vabs.Pk Go.Vabs.Ph Go.Vabs.Sa Go.Vabs.Sb
attribute [local simp] step_nilchk nilchk_ptr step_mkmap step_lookup step_mapEntry step_entryStore step_box cells_int cells_bool cells_str cells_slice cells_ptr cells_agg few_alloc lawOut_nil lawOut_one fieldAddrV natOf_zero fill repN splice over newV
/- BYTES THAT GROW -/
theorem grow_fix {os : List (Option AObj)} {p n c m : Nat} {cs new : List V} (hp : (os[p]?).join = some (.cells true cs)) (hn : n = cs.length) (hm : new.length = m + 1) (hs : n + m < 70368744177664) :
    appendV (few os) 1 1 (.slice (some (p, 0)) 1 n n true) (some (m + 1)) (some new) = some (.slice (some (os.length, 0)) 1 (n + (m + 1)) (n + (m + 1)) false, few (os ++ [some (.cells true (cs ++ new))])) := by
  show valOf (appendOp (few os) 1 1 (.slice (some (p, 0)) 1 n n true) (m + 1) new) = _
  unfold appendOp
  dsimp only
  rw [few_get, hp, Nat.beq_refl, sel_true, show Nat.ble (n + (m + 1)) n = false from by
    cases e : Nat.ble (n + (m + 1)) n with
    | false => rfl
    | true => exact absurd (Nat.le_of_ble_eq_true e) (by omega)]
  rw [ble_t (show (2 * (n + (m + 1)) + 1024) * 1 ≤ 281474976710656 by omega), show Nat.beq new.length ((m + 1) * 1) = true from by rw [hm, Nat.mul_one]; exact Nat.beq_refl _]
  dsimp only [Bool.and_self, sel_true, sel_false]
  rw [show cut 0 (n * 1) cs = some cs from by rw [cut_of (by omega), List.drop_zero, Nat.mul_one, hn, List.take_length]]
  dsimp only
  rw [few_alloc]
  rfl
/-- What an append to bytes of one's own leaves: the slice, the memory. -/
structure Grown (os os' : List (Option AObj)) (p p' : Nat) (bs : List Nat) : Prop where
  at' : (os'[p']?).join = some (newBytes bs)
  old : ∀ i, i < os.length → i ≠ p → (os'[i]?).join = (os[i]?).join
  new : p' = p ∨ os.length ≤ p'
  len : os.length ≤ os'.length
theorem growB {os : List (Option AObj)} {p : Nat} {bs nb : List Nat} (hp : (os[p]?).join = some (newBytes bs)) (hs : bs.length + nb.length < 140737488354000) :
    ∃ p' os', appendV (few os) 1 1 (.slice (some (p, 0)) 1 bs.length bs.length false) (some nb.length) (some (bytesV nb)) = some (.slice (some (p', 0)) 1 (bs.length + nb.length) (bs.length + nb.length) false, few os') ∧ Grown os os' p p' (bs ++ nb) := by
  cases nb with
  | nil => exact ⟨p, os, rfl, ⟨by rw [List.append_nil]; exact hp, fun _ _ _ => rfl, .inl rfl, Nat.le_refl _⟩⟩
  | cons b nb =>
    have ho : ownAt os p = some (bytesV bs) := by rw [ownAt_eq, hp]; rfl
    have hlt := join_lt hp
    refine ⟨os.length, os.set p none ++ [some (AObj.cells true (bytesV bs ++ bytesV (b :: nb)))], ?_, ⟨?_, fun i hi hne => ?_, .inr (Nat.le_refl _), ?_⟩⟩
    · show appendV (few os) 1 1 (.slice (some (p, 0)) 1 bs.length bs.length false) (some (nb.length + 1)) (some (bytesV (b :: nb))) = _
      rw [grow_some, ho, growC_some, if_pos (by simp only [bytesV_len, List.length_cons] at hs ⊢; omega)]
      rfl
    · show ((os.set p none ++ [some (AObj.cells true (bytesV bs ++ bytesV (b :: nb)))])[os.length]?).join = _
      rw [List.getElem?_append_right (by simp)]
      simp [newBytes, bytesV]
    · show ((os.set p none ++ [some (AObj.cells true (bytesV bs ++ bytesV (b :: nb)))])[i]?).join = _
      rw [join_app (by simpa using hi), join_set (fun e => hne e.symm)]
    · show os.length ≤ (os.set p none ++ [some (AObj.cells true (bytesV bs ++ bytesV (b :: nb)))]).length
      simp
theorem first_str {st : St} {l : List Nat} : firstN st 1 l.length (.str l) = some (bytesV l) := by
  show some ((l.take l.length).map fun (b : Nat) => V.int .u8 (.ofNat b)) = _
  rw [List.take_length]
  rfl
theorem first_own {os : List (Option AObj)} {p c : Nat} {f : Bool} {bs : List Nat} (hp : (os[p]?).join = some (newBytes bs)) : firstN (few os) 1 bs.length (.slice (some (p, 0)) 1 bs.length c f) = some (bytesV bs) := by
  show sel (Nat.beq 1 1 && Nat.ble bs.length bs.length) ((few os).loadN p 0 (bs.length * 1)) none = _
  rw [loadN_few hp (by rw [bytesV_len]; omega), ble_t (Nat.le_refl _), List.drop_zero, Nat.mul_one, ← bytesV_len, List.take_length]
  rfl
theorem step_appendZ {call : CallT} {s : Env} {st : St} {e bytes : Nat} {zs : List V} {d n : Src} : stepE call (.appendZ e bytes zs d n) s st = (match natOf (s.ev n) with | some m => appendV st e bytes (s.ev d) (some m) (some (repN m zs)) | none => none) := by
  show (match ex_appendZ e bytes zs d n s.ev st with | some (.val v, st') => _ | some (.enter g args, st') => _ | none => _) = _
  unfold ex_appendZ appendV
  cases natOf (s.ev n) with
  | none => rfl
  | some m =>
    dsimp only
    rw [appendF_eq]
    cases h : appendOp st e bytes (s.ev d) m (repN m zs) with
    | none => rfl
    | some p =>
      obtain ⟨r, s1⟩ := p
      obtain ⟨v, rfl⟩ := appendOp_val h
      rfl
theorem repN_zero : ∀ (m : Nat), repN m [V.int .u8 (.ofNat 0)] = bytesV (List.replicate m 0)
  | 0 => rfl
  | m + 1 => by
    show [V.int .u8 (.ofNat 0)] ++ repN m [V.int .u8 (.ofNat 0)] = _
    rw [repN_zero m]
    rfl
/- BIG-ENDIAN -/
def bigB (n : Nat) : Nat → List Nat
  | 0 => []
  | z + 1 => n / 256 ^ z % 256 :: bigB n z
theorem bigB_len (n : Nat) : ∀ z, (bigB n z).length = z
  | 0 => rfl
  | z + 1 => by show (bigB n z).length + 1 = z + 1; rw [bigB_len n z]
theorem bigB_lt (n : Nat) : ∀ z, ∀ b ∈ bigB n z, b < 256
  | 0, b, h => by cases h
  | z + 1, b, h => by
    rcases List.mem_cons.1 h with rfl | h
    · exact Nat.mod_lt _ (by omega)
    · exact bigB_lt n z b h
theorem be_bigB (n : Nat) : ∀ z, be (bigB n z) = n % 256 ^ z
  | 0 => by rw [Nat.pow_zero, Nat.mod_one]; rfl
  | z + 1 => by
    have key : ∀ (l : List Nat) (a : Nat), l.foldl (fun n b => n * 256 + b) a = a * 256 ^ l.length + be l := by
      intro l
      induction l with
      | nil => intro a; simp [be]
      | cons b l ih =>
        intro a
        show l.foldl (fun n b => n * 256 + b) (a * 256 + b) = a * 256 ^ (l.length + 1) + l.foldl (fun n b => n * 256 + b) (0 * 256 + b)
        rw [ih, ih (0 * 256 + b), Nat.pow_succ, Nat.zero_mul, Nat.zero_add, Nat.add_mul, Nat.mul_assoc, Nat.mul_comm 256 (256 ^ l.length), Nat.add_assoc]
    show (bigB n z).foldl (fun n b => n * 256 + b) (0 * 256 + n / 256 ^ z % 256) = _
    rw [key, be_bigB n z, bigB_len, Nat.zero_mul, Nat.zero_add, Nat.pow_succ, Nat.mod_mul]
    rw [Nat.mul_comm, Nat.add_comm]
theorem bigB_at (n : Nat) : ∀ (z j : Nat), j < z → (bigB n z)[z - (j + 1)]? = some (n / 256 ^ j % 256)
  | 0, j, h => by omega
  | z + 1, j, h => by
    rcases Nat.lt_or_ge j z with hj | hj
    · rw [show z + 1 - (j + 1) = (z - (j + 1)) + 1 from by omega]
      show (bigB n z)[z - (j + 1)]? = _
      exact bigB_at n z j hj
    · have : j = z := by omega
      subst this
      rw [Nat.sub_self]
      rfl
theorem wrap_u64P {x : Int} (h0 : 0 ≤ x) (h1 : x < 18446744073709551616) : wrapV .u64 x = x := by
  obtain ⟨m, rfl⟩ : ∃ m : Nat, x = (m : Int) := ⟨x.toNat, by omega⟩
  exact wrap_u64 (by omega)
def BigF (call : CallT) (g : Nat) : Prop := ∀ os (n z : Nat), 0 < z → z ≤ 8 → call g [.int .i64 (n : Int), .int .i64 (z : Int)] (few os) = some (.slice (some (os.length, 0)) 1 z z false, few (os ++ [some (newBytes (bigB n z))]))
theorem BigF.other {call : CallT} {n g : Nat} {l : List V → St → Option (V × St)} (h : BigF call n) (hne : n ≠ g) : BigF (withL call g l) n := fun os a z h1 h2 => by rw [withL_other hne]; exact h os a z h1 h2
theorem BigF.withF {call : CallT} {n g lf : Nat} {fn : AFunc} (h : BigF call n) (hne : n ≠ g) : BigF (Vabs.withF call g lf fn) n := fun os a z h1 h2 => by rw [withF_other hne]; exact h os a z h1 h2
/- A FONT'S TABLES -/
theorem lookup_at {os : List (Option AObj)} {M c k : Nat} {own : Bool} {kvs : List (List Nat × V)} {t : List Nat} {v zero : V} (hM : (os[M]?).join = some (.map own (entsF 0 kvs) c)) (hk : kvs[k]? = some (t, v)) (hne : ∀ j, j < k → ∀ kv, kvs[j]? = some kv → kv.1 ≠ t) :
    lookupV (few os) none zero (.map (some M)) (.str t) true = some (.tuple [v, .bool true]) := by
  unfold lookupV
  rw [mapOf_few hM]
  show sel true _ _ = _
  rw [sel_true]
  dsimp only
  rw [find_at kvs 0 0 k hk hne]
  rfl
theorem lookup_no {os : List (Option AObj)} {M c : Nat} {own : Bool} {kvs : List (List Nat × V)} {t : List Nat} {zero : V} (hM : (os[M]?).join = some (.map own (entsF 0 kvs) c)) (hne : ∀ kv ∈ kvs, kv.1 ≠ t) :
    lookupV (few os) none zero (.map (some M)) (.str t) true = some (.tuple [zero, .bool false]) := by
  unfold lookupV
  rw [mapOf_few hM]
  show sel true _ _ = _
  rw [sel_true]
  dsimp only
  rw [find_no kvs 0 0 hne]
  rfl
def CloneN (call : CallT) (g : Nat) : Prop := ∀ st, call g [.slice none 0 0 0 true] st = some (.slice none 0 0 0 true, st)
theorem CloneN.code {base : CallT} {g lf : Nat} : CloneN (Vabs.withF base g lf Clone_c) g := fun st => by
  rw [withF_same]
  refine enter_eq ?_
  simp [bin_eqnil2]
theorem CloneN.withF {call : CallT} {n g lf : Nat} {fn : AFunc} (h : CloneN call n) (hne : n ≠ g) : CloneN (Vabs.withF call g lf fn) n := fun st => by rw [withF_other hne]; exact h st
theorem CloneN.other {call : CallT} {n g : Nat} {l : List V → St → Option (V × St)} (h : CloneN call n) (hne : n ≠ g) : CloneN (withL call g l) n := fun st => by rw [withL_other hne]; exact h st
theorem Table_at {call : CallT} {lf nC : Nat} (hC : CloneF call nC) {os : List (Option AObj)} {F M c p k : Nat} {o1 o2 : Bool} {tv : V} {kvs : List (List Nat × V)} {t b : List Nat} (hF : (os[F]?).join = some (.cells o1 [tv, .map (some M)])) (hM : (os[M]?).join = some (.map o2 (entsF 0 kvs) c))
    (hk : kvs[k]? = some (t, .slice (some (p, 0)) 1 b.length b.length false)) (hne : ∀ j, j < k → ∀ kv, kvs[j]? = some kv → kv.1 ≠ t) (hp : (os[p]?).join = some (newBytes b)) (hs : b.length ≤ 140737488354816) :
    enterF call lf [.ptr (some (F, 0)), .str t] (few os) (Table_c nC) = some (.tuple [(cloneR os b).1, .bool true], (cloneR os b).2) := by
  have h1 := lookup_at (zero := .slice none 0 0 0 true) hM hk hne
  have h2 : loadV (few os) false 1 (.ptr (some (F, 1))) = some (.map (some M)) := (load_few hF).trans rfl
  have h3 := hC.1 os p 0 b.length b.length false true (bytesV b) b hp (by rw [bytesV_len]; omega) (by rw [List.drop_zero, ← bytesV_len, List.take_length]) rfl hs
  have h4 : (cloneR os b).1.plain = true := by unfold cloneR; split <;> rfl
  obtain ⟨cv, cs, hcr⟩ : ∃ cv cs, cloneR os b = (cv, cs) := ⟨_, _, rfl⟩
  rw [hcr] at h3 h4 ⊢
  refine enter_eq ?_
  simp [h2, h1, h3, h4]
theorem Table_no {call : CallT} {lf nC : Nat} (hC : CloneN call nC) {os : List (Option AObj)} {F M c : Nat} {o1 o2 : Bool} {tv : V} {kvs : List (List Nat × V)} {t : List Nat} (hF : (os[F]?).join = some (.cells o1 [tv, .map (some M)])) (hM : (os[M]?).join = some (.map o2 (entsF 0 kvs) c))
    (hne : ∀ kv ∈ kvs, kv.1 ≠ t) : enterF call lf [.ptr (some (F, 0)), .str t] (few os) (Table_c nC) = some (.tuple [.slice none 0 0 0 true, .bool false], few os) := by
  have h1 := lookup_no (zero := .slice none 0 0 0 true) hM hne
  have h2 : loadV (few os) false 1 (.ptr (some (F, 1))) = some (.map (some M)) := (load_few hF).trans rfl
  refine enter_eq ?_
  simp [h2, h1, hC (few os)]
/-- The tags, anew. -/
theorem Tags_run {call call' : CallT} {lf lf' nS : Nat} {os : List (Option AObj)} {F M q : Nat} {o1 : Bool} {ts : List (List Nat)} (hn : ts.length ≤ 64) (hF : (os[F]?).join = some (.cells o1 [tagsV q ts.length, .map (some M)])) (hq : ts ≠ [] → (os[q]?).join = some (.cells true (strsV ts)))
    (hc : ∀ args st, call nS args st = enterF call' lf' args st CloneS_c) : ∃ v' l, enterF call lf [.ptr (some (F, 0))] (few os) (Tags_c nS) = some (v', few (os ++ l)) ∧ lenOf v' = some ts.length ∧ strsAt (few (os ++ l)) v' ts := by
  have h1 : loadV (few os) false 1 (.ptr (some (F, 0))) = some (tagsV q ts.length) := (load_few hF).trans rfl
  have key : ∃ v' l, enterF call' lf' [tagsV q ts.length] (few os) CloneS_c = some (v', few (os ++ l)) ∧ lenOf v' = some ts.length ∧ strsAt (few (os ++ l)) v' ts ∧ v'.plain = true := by
    cases ts with
    | nil =>
      refine ⟨.slice none 0 0 0 true, [], ?_, rfl, rfl, rfl⟩
      rw [List.append_nil]
      refine enter_eq ?_
      simp [tagsV, bin_eqnil2]
    | cons t ts =>
      have hq' := hq (by simp)
      obtain ⟨n, hn'⟩ : ∃ n, n = (t :: ts).length := ⟨_, rfl⟩
      have hpos : 0 < n := by rw [hn']; simp
      rw [← hn']
      have htv : tagsV q n = .slice (some (q, 0)) 1 n n false := by unfold tagsV; rw [if_neg (by omega)]
      rw [htv]
      have hA : ((os ++ [some (AObj.cells true [])])[q]?).join = some (.cells true (strsV (t :: ts))) := by rw [join_app (join_lt hq')]; exact hq'
      have hf : firstN (few (os ++ [some (AObj.cells true [])])) 1 n (.slice (some (q, 0)) 1 n n false) = some (strsV (t :: ts)) := by
        show sel (Nat.beq 1 1 && Nat.ble n n) ((few (os ++ [some (AObj.cells true [])])).loadN q 0 (n * 1)) none = _
        rw [loadN_few hA (by rw [strsV_len, ← hn']; omega), ble_t (Nat.le_refl _), List.drop_zero, Nat.mul_one, List.take_of_length_le (by rw [strsV_len, ← hn']; exact Nat.le_refl _)]
        rfl
      have happ := append_newE (os := os ++ [some (AObj.cells true [])]) (j := os.length) (n := n) (e := 1) (bytes := 16) (new := strsV (t :: ts)) (by simp) hpos (by rw [strsV_len, ← hn', Nat.mul_one]) (by rw [hn']; omega) (by omega)
      refine ⟨.slice (some (os.length + 1, 0)) 1 n n false, [some (AObj.cells true []), some (.cells true (strsV (t :: ts)))], ?_, rfl, ⟨Nat.le_refl _, hn', true, strsV (t :: ts), ?_, by rw [strsV_len, ← hn']; omega, ?_⟩, rfl⟩
      · refine enter_eq ?_
        simp only [List.length_append, List.length_cons, List.length_nil] at happ
        simp [bin_eqnil, lenOf, firstNo, hf, happ]
      · rw [few_get]; simp
      · rw [List.drop_zero, List.take_of_length_le (by rw [strsV_len, ← hn']; exact Nat.le_refl _)]
  obtain ⟨v', l, h2, h3, h4, h5⟩ := key
  refine ⟨v', l, ?_, h3, h4⟩
  rw [← hc] at h2
  refine enter_eq ?_
  simp [h1, h2, h5]

end Go.Vabs.Sc
