/-
  The steps of single operations, as rules to rewrite by; memories of few objects.
-/
import Derived.Test.YtpbafimkplhknaaVabsZa
namespace Go.Vabs
set_option linter.unusedVariables false
set_option linter.unusedSimpArgs false

section
variable {call : CallT} {s : Env} {st : St}
theorem put_at {p q : Pos} {v : V} : (s.put (some p) v) q = sel (posEq q p) v (s q) := rfl
theorem put_no {v : V} : s.put none v = s := rfl
theorem ev_c {v : V} : s.ev (.c v) = v := rfl
theorem ev_slot {p : Pos} : s.ev (.t p) = s p := rfl
theorem posEq_h : posEq .h .h = true := rfl
theorem posEq_o {p q : Pos} : posEq (.o p) (.o q) = posEq p q := rfl
theorem posEq_i {p q : Pos} : posEq (.i p) (.i q) = posEq p q := rfl
theorem posEq_ho {q : Pos} : posEq .h (.o q) = false := rfl
theorem posEq_hi {q : Pos} : posEq .h (.i q) = false := rfl
theorem posEq_oh {q : Pos} : posEq (.o q) .h = false := rfl
theorem posEq_ih {q : Pos} : posEq (.i q) .h = false := rfl
theorem posEq_oi {p q : Pos} : posEq (.o p) (.i q) = false := rfl
theorem posEq_io {p q : Pos} : posEq (.i p) (.o q) = false := rfl

/- one operation, told by values -/
noncomputable def okv : Option V → St → Option (V × St)
  | some v, st => some (v, st)
  | none, _ => none
theorem okv_some {v : V} : okv (some v) st = some (v, st) := rfl
noncomputable def resv : Option V → St → Option (Res × St)
  | some v, st => some (.val v, st)
  | none, _ => none
theorem step_of {o : AOp} {x : Option V} (h : execOp o s.ev st = resv x st) : stepE call o s st = okv x st := by
  unfold stepE
  rw [h]
  cases x <;> rfl
theorem step_mv {x : Src} : stepE call (.mv x) s st = some (s.ev x, st) := rfl
theorem step_call {f : Nat} {xs : List Src} : stepE call (.call f xs) s st = call f (xs.map s.ev) st := rfl

noncomputable def pickV : V → V → V → Option V
  | .bool t, a, b => some (sel t a b)
  | _, _, _ => none
theorem step_pick {c a b : Src} : stepE call (.pick c a b) s st = okv (pickV (s.ev c) (s.ev a) (s.ev b)) st := by
  refine step_of ?_
  show ex_pick c a b s.ev st = _
  unfold ex_pick
  cases s.ev c <;> rfl
theorem pickV_bool {t : Bool} {a b : V} : pickV (.bool t) a b = some (sel t a b) := rfl

noncomputable def binV (op : BinOp) (eq : EqKind) : V → V → Option V
  | .int k a, .int k' b =>
    match op with
    | .shl | .shr => match shift op k a b with | some r => some (.int k r) | none => none
    | _ => if k = k' then arith op k a b else none
  | .str a, .str b => strOp op a b
  | u, v =>
    match eqAny eq u v with
    | some r => match op with
      | .eql => some (.bool r)
      | .neq => some (.bool (!r))
      | _ => none
    | none => none
theorem step_bin {op : BinOp} {eq : EqKind} {x y : Src} : stepE call (.bin op eq x y) s st = okv (binV op eq (s.ev x) (s.ev y)) st := by
  refine step_of ?_
  show ex_bin op eq x y s.ev st = _
  unfold ex_bin binV
  generalize s.ev x = u
  generalize s.ev y = v
  have hd : ∀ r : Option Bool, (match r with | some r => (match op with | .eql => some (Res.val (.bool r), st) | .neq => some (Res.val (.bool (!r)), st) | _ => none) | none => none) =
      resv (match r with | some r => (match op with | .eql => some (V.bool r) | .neq => some (V.bool (!r)) | _ => none) | none => none) st := by
    intro r
    cases r with
    | none => rfl
    | some r => cases op <;> rfl
  cases u with
  | int k a =>
    cases v with
    | int k' b =>
      dsimp only
      cases op <;> dsimp only <;> first
        | (cases shift _ k a b <;> rfl)
        | (by_cases hk : k = k' <;> simp only [hk, if_true, if_false] <;> first | rfl | (cases arith _ k' a b <;> rfl))
    | _ => exact hd _
  | str a =>
    cases v with
    | str b => dsimp only; cases strOp op a b <;> rfl
    | _ => exact hd _
  | _ => (cases v <;> exact hd _)
section
variable {eq : EqKind} {k k' : IntKind} {a b : Int}
theorem bin_add : binV .add eq (.int k a) (.int k b) = some (.int k (wrapV k (a + b))) := by simp only [binV, if_true, arith]
theorem bin_sub : binV .sub eq (.int k a) (.int k b) = some (.int k (wrapV k (a - b))) := by simp only [binV, if_true, arith]
theorem bin_mul : binV .mul eq (.int k a) (.int k b) = some (.int k (wrapV k (a * b))) := by simp only [binV, if_true, arith]
theorem eqI_dec {a b : Int} : eqI a b = decide (a = b) := by rw [eqI_eq]; by_cases h : a = b <;> simp [h]
theorem bin_rem (h : b ≠ 0) : binV .rem eq (.int k a) (.int k b) = some (.int k (Int.tmod a b)) := by
  simp only [binV, if_true, arith, eqI_dec, decide_eq_false h, sel_false]
theorem bin_eql : binV .eql eq (.int k a) (.int k b) = some (.bool (decide (a = b))) := by simp only [binV, if_true, arith, eqI_dec]
theorem bin_neq : binV .neq eq (.int k a) (.int k b) = some (.bool (!decide (a = b))) := by simp only [binV, if_true, arith, eqI_dec]
theorem bin_lss : binV .lss eq (.int k a) (.int k b) = some (.bool (decide (a < b))) := by simp only [binV, if_true, arith, ltI_eq]
theorem bin_leq : binV .leq eq (.int k a) (.int k b) = some (.bool (decide (a ≤ b))) := by simp only [binV, if_true, arith, leI_eq]
theorem bin_gtr : binV .gtr eq (.int k a) (.int k b) = some (.bool (decide (b < a))) := by simp only [binV, if_true, arith, ltI_eq]
theorem bin_geq : binV .geq eq (.int k a) (.int k b) = some (.bool (decide (b ≤ a))) := by simp only [binV, if_true, arith, leI_eq]
theorem bin_shl {n : Nat} : binV .shl eq (.int k a) (.int k' (.ofNat n)) = some (.int k (wrapV k (a * ((2 ^ sel (Nat.ble n (bitsOf k)) n (bitsOf k) : Nat) : Int)))) := by simp only [binV, shift]; rfl
theorem bin_shr {n : Nat} : binV .shr eq (.int k a) (.int k' (.ofNat n)) = some (.int k (Int.fdiv a ((2 ^ sel (Nat.ble n (bitsOf k)) n (bitsOf k) : Nat) : Int))) := by simp only [binV, shift]; rfl
end
theorem bin_eqb {a b : Bool} : binV .eql (.val .bool) (.bool a) (.bool b) = some (.bool (a == b)) := by simp only [binV, eqAny, eqV]
theorem bin_neb {a b : Bool} : binV .neq (.val .bool) (.bool a) (.bool b) = some (.bool (!(a == b))) := by simp only [binV, eqAny, eqV]
theorem eqS_eq : ∀ {a b : List Nat}, eqS a b = decide (a = b)
  | [], [] => rfl
  | [], _ :: _ => rfl
  | _ :: _, [] => rfl
  | a :: x, b :: y => by
    show sel (Nat.beq a b) (eqS x y) false = _
    rw [eqS_eq]
    cases h : Nat.beq a b with
    | true =>
      rw [Nat.beq_eq] at h
      subst h
      by_cases e : x = y
      · subst e; simp [sel]
      · simp [sel, e]
    | false =>
      have : a ≠ b := fun e => by rw [e, Nat.beq_refl] at h; cases h
      simp [sel, this]
theorem bin_eqs {eq : EqKind} {a b : List Nat} : binV .eql eq (.str a) (.str b) = some (.bool (decide (a = b))) := by simp only [binV, strOp, eqS_eq]
theorem bin_nes {eq : EqKind} {a b : List Nat} : binV .neq eq (.str a) (.str b) = some (.bool (!decide (a = b))) := by simp only [binV, strOp, eqS_eq]
theorem bin_eqnil {p : Nat × Nat} {e n c : Nat} {f : Bool} {e' n' c' : Nat} {f' : Bool} : binV .eql (.nils .slice) (.slice (some p) e n c f) (.slice none e' n' c' f') = some (.bool false) := by simp only [binV, eqAny, eqNil]
theorem bin_eqnil2 {e n c : Nat} {f : Bool} {e' n' c' : Nat} {f' : Bool} : binV .eql (.nils .slice) (.slice none e n c f) (.slice none e' n' c' f') = some (.bool true) := by simp only [binV, eqAny, eqNil, Option.isNone_none]

noncomputable def unV : UnOp → V → Option V
  | .neg, .int k n => some (.int k (wrapV k (0 - n)))
  | .xor, .int k n => match bits .xor k (if k.signed = true then -1 else k.max) n with | some r => some (.int k r) | none => none
  | .not, .bool b => some (.bool (!b))
  | _, _ => none
theorem step_un {op : UnOp} {x : Src} : stepE call (.un op x) s st = okv (unV op (s.ev x)) st := by
  refine step_of ?_
  show ex_un op x s.ev st = _
  unfold ex_un unV
  generalize s.ev x = u
  cases op <;> cases u <;> try rfl
  rename_i k n
  dsimp only
  cases bits .xor k (if k.signed = true then -1 else k.max) n <;> rfl
theorem un_not {b : Bool} : unV .not (.bool b) = some (.bool (!b)) := rfl
theorem un_neg {k : IntKind} {n : Int} : unV .neg (.int k n) = some (.int k (wrapV k (0 - n))) := rfl

noncomputable def convV (st : St) : Conv → V → Option V
  | .int k, .int _ n => some (.int k (wrapV k n))
  | .str, .str s => some (.str s)
  | .toStr, .slice none _ _ _ _ => some (.str [])
  | .toStr, .slice (some (i, o)) e len _ _ => sel (Nat.beq e 1) (match st.loadN i o len with | some cs => (bytesOf cs).map .str | none => none) none
  | _, _ => none
theorem step_convInt {k : IntKind} {x : Src} : stepE call (.conv (.int k) x) s st = okv (convV st (.int k) (s.ev x)) st := by
  refine step_of ?_
  show ex_conv (.int k) x s.ev st = _
  unfold ex_conv convV
  cases s.ev x <;> rfl
theorem step_convStr {x : Src} : stepE call (.conv .toStr x) s st = okv (convV st .toStr (s.ev x)) st := by
  refine step_of ?_
  show ex_conv .toStr x s.ev st = _
  unfold ex_conv convV
  cases s.ev x with
  | slice a e n c f =>
    cases a with
    | none => rfl
    | some p =>
      obtain ⟨i, o⟩ := p
      dsimp only
      cases Nat.beq e 1
      · rfl
      · dsimp only [sel_true]
        cases st.loadN i o n with
        | none => rfl
        | some cs => dsimp only; cases bytesOf cs <;> rfl
  | _ => rfl
theorem conv_int {k k' : IntKind} {n : Int} : convV st (.int k) (.int k' n) = some (.int k (wrapV k n)) := rfl

noncomputable def lenV (st : St) : LenK → V → Option V
  | .str, .str s => some (.int .i64 (.ofNat s.length))
  | .slice, .slice _ _ n _ _ => some (.int .i64 (.ofNat n))
  | .const n, _ => some (.int .i64 (.ofNat n))
  | .map, .map none => some (.int .i64 0)
  | .map, .map (some i) => (match st.get i with | some (.map _ es _) => some (.int .i64 (.ofNat es.length)) | _ => none)
  | _, _ => none
theorem step_len {k : LenK} {x : Src} : stepE call (.len k x) s st = okv (lenV st k (s.ev x)) st := by
  refine step_of ?_
  show ex_len k x s.ev st = _
  unfold ex_len lenV
  generalize s.ev x = u
  cases k <;> cases u <;> try rfl
  rename_i m
  cases m with
  | none => rfl
  | some i =>
    dsimp only
    cases st.get i with
    | none => rfl
    | some o => cases o <;> rfl
theorem len_slice {a : Option (Nat × Nat)} {e n c : Nat} {f : Bool} : lenV st .slice (.slice a e n c f) = some (.int .i64 (n : Int)) := rfl
theorem len_str {l : List Nat} : lenV st .str (.str l) = some (.int .i64 (l.length : Int)) := rfl
theorem len_const {n : Nat} {v : V} : lenV st (.const n) v = some (.int .i64 (n : Int)) := by cases v <;> rfl

theorem step_slice {k : SlK} {x : Src} {lo hi mx : Option Src} : stepE call (.slice k x lo hi mx) s st = okv (sliceOp k (s.ev x) (lo.map s.ev) (hi.map s.ev) (mx.map s.ev)) st := by
  refine step_of ?_
  show ex_slice k x lo hi mx s.ev st = _
  unfold ex_slice
  cases sliceOp k (s.ev x) (lo.map s.ev) (hi.map s.ev) (mx.map s.ev) <;> rfl

noncomputable def idxAddrV : IxK → V → Option Nat → Option V
  | .arr n _ e, .ptr (some (j, o)), some i => sel (Nat.blt i n) (some (.ptr (some (j, o + i * e)))) none
  | .slice e, .slice (some (j, o)) e' len _ _, some i => sel (Nat.blt i len && Nat.beq e e') (some (.ptr (some (j, o + i * e)))) none
  | _, _, _ => none
theorem step_idxAddr {k : IxK} {x i : Src} : stepE call (.idxAddr k x i) s st = okv (idxAddrV k (s.ev x) (natOf (s.ev i))) st := by
  refine step_of ?_
  show ex_idxAddr k x i s.ev st = _
  unfold ex_idxAddr idxAddrV
  generalize natOf (s.ev i) = m
  generalize s.ev x = u
  cases m with
  | none =>
    cases k <;> cases u with
    | ptr a => cases a <;> rfl
    | slice a => cases a <;> rfl
    | _ => rfl
  | some i =>
    cases k with
    | str => cases u <;> rfl
    | arr n g e =>
      cases u <;> try rfl
      rename_i a
      cases a with
      | none => rfl
      | some p => obtain ⟨j, o⟩ := p; dsimp only; cases Nat.blt i n <;> rfl
    | slice e =>
      cases u <;> try rfl
      rename_i a e' len c f
      cases a with
      | none => rfl
      | some p => obtain ⟨j, o⟩ := p; dsimp only; cases (Nat.blt i len && Nat.beq e e') <;> rfl

noncomputable def indexV : IxK → V → Option Nat → Option V
  | .arr n a e, .agg cs, some i => sel (Nat.blt i n) (part a e (i * e) cs) none
  | .str, .str s, some i => (s[i]?).map fun b => .int .u8 (.ofNat b)
  | _, _, _ => none
theorem step_index {k : IxK} {x i : Src} : stepE call (.index k x i) s st = okv (indexV k (s.ev x) (natOf (s.ev i))) st := by
  refine step_of ?_
  show ex_index k x i s.ev st = _
  unfold ex_index indexV
  cases natOf (s.ev i) with
  | none => cases k <;> cases s.ev x <;> rfl
  | some i =>
    generalize s.ev x = u
    cases k <;> cases u <;> try rfl
    · rename_i n a e cs
      dsimp only; cases Nat.blt i n
      · rfl
      · dsimp only [sel_true]; cases part a e (i * e) cs <;> rfl
    · rename_i l
      dsimp only; cases l[i]? <;> rfl

noncomputable def loadV (st : St) (a : Bool) (n : Nat) : V → Option V
  | .ptr (some (i, o)) => sel a ((st.loadN i o n).map .agg) (st.load1 i o)
  | _ => none
theorem step_load {a : Bool} {n : Nat} {x : Src} : stepE call (.load a n x) s st = okv (loadV st a n (s.ev x)) st := by
  refine step_of ?_
  show ex_load a n x s.ev st = _
  unfold ex_load loadV
  simp only [load1F_eq]
  generalize s.ev x = u
  cases u <;> try rfl
  rename_i p
  cases p with
  | none => rfl
  | some p =>
    obtain ⟨i, o⟩ := p
    dsimp only
    cases a
    · dsimp only [sel_false]; cases st.load1 i o <;> rfl
    · dsimp only [sel_true]; cases st.loadN i o n <;> rfl

noncomputable def extractV : V → Nat → Option V
  | .tuple vs, n => nth n vs
  | _, _ => none
theorem step_extract {x : Src} {n : Nat} : stepE call (.extract x n) s st = okv (extractV (s.ev x) n) st := by
  refine step_of ?_
  show ex_extract x n s.ev st = _
  unfold ex_extract extractV
  generalize s.ev x = u
  cases u <;> try rfl
  rename_i vs
  dsimp only
  cases nth n vs <;> rfl

noncomputable def fieldV (a : Bool) (n off : Nat) : V → Option V
  | .agg cs => part a n off cs
  | _ => none
theorem step_field {a : Bool} {n off : Nat} {x : Src} : stepE call (.field a n off x) s st = okv (fieldV a n off (s.ev x)) st := by
  refine step_of ?_
  show ex_field a n off x s.ev st = _
  unfold ex_field fieldV
  generalize s.ev x = u
  cases u <;> try rfl
  rename_i cs
  dsimp only
  cases part a n off cs <;> rfl
noncomputable def fieldAddrV (off : Nat) : V → Option V
  | .ptr (some (i, o)) => some (.ptr (some (i, o + off)))
  | _ => none
theorem step_fieldAddr {off : Nat} {x : Src} : stepE call (.fieldAddr off x) s st = okv (fieldAddrV off (s.ev x)) st := by
  refine step_of ?_
  show ex_fieldAddr off x s.ev st = _
  unfold ex_fieldAddr fieldAddrV
  generalize s.ev x = u
  cases u <;> try rfl
  rename_i p
  cases p <;> rfl
theorem step_build {zs : List V} {ps : List (Nat × Nat × Src)} : stepE call (.build zs ps) s st = okv ((fill s.ev ps zs).map .agg) st := by
  refine step_of ?_
  show ex_build zs ps s.ev st = _
  unfold ex_build
  cases fill s.ev ps zs <;> rfl
theorem step_minmax {mx : Bool} {x : Src} {xs : List Src} : stepE call (.minmax mx x xs) s st = okv (mmAll mx (s.ev x) (xs.map s.ev)) st := by
  refine step_of ?_
  show ex_minmax mx x xs s.ev st = _
  unfold ex_minmax
  cases mmAll mx (s.ev x) (xs.map s.ev) <;> rfl

/- operations that write -/
noncomputable def newV (f : Nat → V) : Option (Nat × St) → Option (V × St)
  | some (j, st') => some (f j, st')
  | none => none
theorem newV_some {f : Nat → V} {j : Nat} {st' : St} : newV f (some (j, st')) = some (f j, st') := rfl
theorem step_alloc {zs : List V} : stepE call (.alloc zs) s st = newV (fun j => .ptr (some (j, 0))) (st.alloc (.cells true zs)) := by
  show (match ex_alloc zs s.ev st with | some (.val v, st') => _ | some (.enter g args, st') => _ | none => _) = _
  unfold ex_alloc
  cases st.alloc (.cells true zs) <;> rfl
noncomputable def bsliceV (st : St) (e len : Nat) : Option (List V) → Option (V × St)
  | some cs => newV (fun j => .slice (some (j, 0)) e len len true) (st.alloc (.cells true cs))
  | none => none
theorem step_bslice {e len : Nat} {zs : List V} {ps : List (Nat × Nat × Src)} : stepE call (.bslice e len zs ps) s st = bsliceV st e len (fill s.ev ps (repN len zs)) := by
  show (match ex_bslice e len zs ps s.ev st with | some (.val v, st') => _ | some (.enter g args, st') => _ | none => _) = _
  unfold ex_bslice bsliceV
  cases fill s.ev ps (repN len zs) with
  | none => rfl
  | some cs => dsimp only; cases st.alloc (.cells true cs) <;> rfl
theorem bsliceV_some {e len : Nat} {cs : List V} : bsliceV st e len (some cs) = newV (fun j => .slice (some (j, 0)) e len len true) (st.alloc (.cells true cs)) := rfl
noncomputable def storeV (st : St) (n : Nat) : V → Option (List V) → Option (V × St)
  | .ptr (some (i, o)), some cs => sel (Nat.beq cs.length n) (match st.storeN i o cs with | some st' => some (V.undef, st') | none => none) none
  | _, _ => none
theorem step_store {n : Nat} {a x : Src} : stepE call (.store n a x) s st = storeV st n (s.ev a) (s.ev x).cells := by
  show (match ex_store n a x s.ev st with | some (.val v, st') => _ | some (.enter g args, st') => _ | none => _) = _
  unfold ex_store storeV
  generalize s.ev a = u
  cases u <;> try rfl
  rename_i p
  cases p with
  | none => rfl
  | some p =>
    obtain ⟨i, o⟩ := p
    dsimp only
    cases (s.ev x).cells with
    | none => rfl
    | some cs =>
      dsimp only
      cases Nat.beq cs.length n
      · rfl
      · dsimp only [sel_true]; cases st.storeN i o cs <;> rfl
/-- Append's value. -/
noncomputable def valOf : Option (Res × St) → Option (V × St)
  | some (.val v, st') => some (v, st')
  | _ => none
noncomputable def appendV (st : St) (e bytes : Nat) (sv : V) : Option Nat → Option (List V) → Option (V × St)
  | some m, some new => valOf (appendOp st e bytes sv m new)
  | _, _ => none
noncomputable def firstNo (st : St) (e : Nat) : Option Nat → V → Option (List V)
  | some m, x => firstN st e m x
  | none, _ => none
theorem appendOp_val {e bytes m : Nat} {sv : V} {new : List V} {r : Res} {st' : St} (h : appendOp st e bytes sv m new = some (r, st')) : ∃ v, r = .val v := by
  unfold appendOp at h
  split at h
  · split at h
    · cases h; exact ⟨_, rfl⟩
    · obtain ⟨_, h⟩ := sel_some h
      split at h
      · split at h
        · cases h; exact ⟨_, rfl⟩
        · cases h
      · obtain ⟨_, h⟩ := sel_some h
        split at h
        · rcases sel_cases h with ⟨_, h⟩ | ⟨_, h⟩
          · split at h
            · cases h; exact ⟨_, rfl⟩
            · cases h
          · rcases sel_cases h with ⟨_, h⟩ | ⟨_, h⟩
            · split at h
              · split at h
                · cases h; exact ⟨_, rfl⟩
                · cases h
              · cases h
            · obtain ⟨_, h⟩ := sel_some h
              split at h
              · split at h
                · split at h
                  · cases h; exact ⟨_, rfl⟩
                  · cases h
                · cases h
              · cases h
        · cases h
  · cases h
theorem step_append {e bytes : Nat} {d x : Src} : stepE call (.append e bytes d x) s st = appendV st e bytes (s.ev d) (lenOf (s.ev x)) (firstNo st e (lenOf (s.ev x)) (s.ev x)) := by
  show (match ex_append e bytes d x s.ev st with | some (.val v, st') => _ | some (.enter g args, st') => _ | none => _) = _
  unfold ex_append appendV
  cases lenOf (s.ev x) with
  | none => rfl
  | some m =>
    dsimp only [firstNo]
    cases firstN st e m (s.ev x) with
    | none => rfl
    | some new =>
      dsimp only
      rw [appendF_eq]
      cases h : appendOp st e bytes (s.ev d) m new with
      | none => rfl
      | some p =>
        obtain ⟨r, s1⟩ := p
        obtain ⟨v, rfl⟩ := appendOp_val h
        rfl
end

/- MEMORIES OF FEW OBJECTS -/
noncomputable section
def heapFrom : Nat → List (Option AObj) → T AObj → T AObj
  | _, [], t => t
  | n, o :: l, t => heapFrom (n + 1) l (t.set n o)
/-- The memory with just these objects. -/
def few (os : List (Option AObj)) : St := ⟨os.length, heapFrom 0 os .nil, fun _ => true, fun _ => true⟩
end
theorem heapFrom_get : ∀ (l : List (Option AObj)) (n : Nat) (t : T AObj) (i : Nat), (heapFrom n l t).get i = if n ≤ i ∧ i < n + l.length then (l[i - n]?).join else t.get i
  | [], n, t, i => by rw [if_neg (by simp only [List.length_nil]; omega)]; rfl
  | o :: l, n, t, i => by
    show (heapFrom (n + 1) l (t.set n o)).get i = _
    rw [heapFrom_get l, T.get_set]
    simp only [List.length_cons]
    by_cases c1 : n + 1 ≤ i ∧ i < n + 1 + l.length
    · rw [if_pos c1, if_pos (by omega), show i - n = (i - (n + 1)) + 1 from by omega]
      rfl
    · rw [if_neg c1]
      by_cases c2 : i = n
      · subst c2
        rw [if_pos rfl, if_pos (by omega), Nat.sub_self]
        rfl
      · rw [if_neg c2, if_neg (by omega)]
theorem few_heap (os : List (Option AObj)) (i : Nat) : (few os).heap.get i = (os[i]?).join := by
  show (heapFrom 0 os .nil).get i = _
  rw [heapFrom_get]
  by_cases h : i < os.length
  · rw [if_pos ⟨Nat.zero_le _, by omega⟩, Nat.sub_zero]
  · rw [if_neg (by omega), List.getElem?_eq_none (by omega)]
    rfl
theorem few_get (os : List (Option AObj)) (i : Nat) : (few os).get i = (os[i]?).join := by
  rw [St.get_eq, if_pos (show (few os).vis i = true from rfl), few_heap]
theorem few_neat (os : List (Option AObj)) : Neat (few os) := fun i hi => by
  rw [few_get, List.getElem?_eq_none hi]; rfl
theorem heapFrom_snoc : ∀ (l : List (Option AObj)) (n : Nat) (t : T AObj) (o : Option AObj), heapFrom n (l ++ [o]) t = (heapFrom n l t).set (n + l.length) o
  | [], n, t, o => rfl
  | a :: l, n, t, o => by
    show heapFrom (n + 1) (l ++ [o]) (t.set n a) = (heapFrom (n + 1) l (t.set n a)).set (n + (l.length + 1)) o
    rw [heapFrom_snoc l, show n + 1 + l.length = n + (l.length + 1) from by omega]
theorem few_alloc (os : List (Option AObj)) (o : AObj) : (few os).alloc o = some (os.length, few (os ++ [some o])) := by
  show (some (os.length, (⟨os.length + 1, (heapFrom 0 os .nil).set os.length (some o), fun _ => true, fun _ => true⟩ : St)) : Option (Nat × St)) = _
  unfold few
  rw [heapFrom_snoc]
  simp only [List.length_append, List.length_cons, List.length_nil, Nat.zero_add]
theorem few_next (os : List (Option AObj)) : (few os).next = os.length := rfl
theorem enter_eq {call : CallT} {lf n : Nat} {c : ACode} {rs : List ARes} {args : List V} {st st' : St} {v : V} (h : wp call lf c (initE args 0 env0) st (finQ rs fun u s => u = v ∧ s = st')) :
    enterF call lf args st ⟨n, c, rs⟩ = some (v, st') := by
  obtain ⟨u, s, h1, rfl, rfl⟩ := enter_wp (n := n) h
  exact h1
section
variable {s : Env} {st : St} {K : V → St → Prop}
theorem initE_nil {n : Nat} : initE [] n s = s := rfl
theorem initE_cons {v : V} {vs : List V} {n : Nat} : initE (v :: vs) n s = initE vs (n + 1) (s.put (some (pos n)) v) := rfl
theorem pos_0 : pos 0 = .h := rfl
theorem pos_1 : pos 1 = .o .h := rfl
theorem pos_2 : pos 2 = .i .h := rfl
theorem pos_3 : pos 3 = .o (.o .h) := rfl
theorem pos_4 : pos 4 = .i (.o .h) := rfl
theorem pos_5 : pos 5 = .o (.i .h) := rfl
theorem pos_6 : pos 6 = .i (.i .h) := rfl
theorem pos_7 : pos 7 = .o (.o (.o .h)) := rfl
theorem pos_8 : pos 8 = .i (.o (.o .h)) := rfl
theorem boolIs_b {b t : Bool} : boolIs b (.bool t) = some (t == b) := rfl
theorem boolIs_t {b : Bool} {l : List V} : boolIs b (.tuple l) = some false := rfl
theorem finQ_ret {rs : List ARes} : finQ rs K .ret s st ↔ ∃ vs, ressE s st rs = some vs ∧ K (oneOf vs) st := Iff.rfl
theorem finQ_normal {rs : List ARes} : finQ rs K .normal s st ↔ ∃ vs, ressE s st rs = some vs ∧ K (oneOf vs) st := Iff.rfl
theorem ressE_nil : ressE s st [] = some [] := rfl
noncomputable def consO (v : Option V) (r : Option (List V)) : Option (List V) := match v, r with
  | some v, some vs => sel v.plain (some (v :: vs)) none
  | _, _ => none
theorem ressE_cons {r : ARes} {rs : List ARes} : ressE s st (r :: rs) = consO (resE s st r) (ressE s st rs) := rfl
theorem resE_tmp {t : Pos} : resE s st (.tmp t) = some (s t) := rfl
theorem consO_some {v : V} {vs : List V} : consO (some v) (some vs) = sel v.plain (some (v :: vs)) none := rfl
end

theorem plain_bool {b : Bool} : (V.bool b).plain = true := rfl
theorem plain_int {k : IntKind} {n : Int} : (V.int k n).plain = true := rfl
theorem plain_str {s : List Nat} : (V.str s).plain = true := rfl
theorem plain_ptr {a : Option (Nat × Nat)} : (V.ptr a).plain = true := rfl
theorem plain_slice {a : Option (Nat × Nat)} {e n c : Nat} {f : Bool} : (V.slice a e n c f).plain = true := rfl
theorem plain_map {a : Option Nat} : (V.map a).plain = true := rfl
theorem plain_agg {cs : List V} : (V.agg cs).plain = true := rfl
theorem plain_func {f : Nat} {a b : List V} : (V.func f a b).plain = true := rfl
theorem plain_nilFunc : (V.nilFunc).plain = true := rfl
theorem oneOf_one {v : V} : oneOf [v] = v := rfl
theorem oneOf_two {v w : V} {l : List V} : oneOf (v :: w :: l) = .tuple (v :: w :: l) := rfl
theorem ble_self {n : Nat} : Nat.ble n n = true := Nat.ble_eq_true_of_le (Nat.le_refl n)

end Go.Vabs
